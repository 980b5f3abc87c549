/- Parts of own slices: cut, appended to, copied into, cleared. -/
import Derived.Test.YtknnooannohflaaDoorPxTY
namespace Go.Px
open Go.RowKit
set_option linter.unusedVariables false

section
variable {X : Cx} {h : Hp} {ρ : Nat → Loc} {st : St} {a : Act} {w : World} {P : Program}

theorem Rep.osv_inv {v : Value} {id : Nat} {l hh c : Int} (r : Rep h ρ v (.osv id l hh c)) : ∃ p : Option Addr, v = .slice p (hh - l).toNat (c - l).toNat ∧ 0 ≤ l ∧ l ≤ hh ∧ hh ≤ c ∧ (c = if (ρ id).none then 0 else ((ρ id).cap : Int)) ∧
  (l < c → p = some ⟨(ρ id).blk, (ρ id).off + l.toNat * (ρ id).sz, none⟩) := by
 cases r with
 | pure _ _ hp => cases hp
 | osv _ _ _ _ p h0 h1 h2 hc hp => exact ⟨p, rfl, h0, h1, h2, hc, hp⟩

theorem OwnOK.write {l : Loc} {sz : Nat} {rows ys : List (List SV)} {vs : List Value} {k : Nat} (o : OwnOK h w l sz rows) (hf : Flat h sz ys vs) (hk : k ≤ rows.length) (hfit : k + ys.length ≤ l.cap) :
  ∃ w', (storeCells ⟨l.blk, l.off + k * sz, none⟩ vs).run P w = .ok () w' ∧ Keeps (fun b => b = l.blk) w w' ∧ (∀ b, b ≠ l.blk → w'.heap[b]? = w.heap[b]?) ∧
   OwnOK h w' { l with len := (rows.take k ++ ys ++ rows.drop (k + ys.length)).length } sz (rows.take k ++ ys ++ rows.drop (k + ys.length)) := by
 obtain ⟨cs, t, fz, hc, hs, hfz, hv⟩ := o.hblk; have hmul : k * sz + ys.length * sz ≤ l.cap * sz := by rw [← Nat.add_mul]; exact Nat.mul_le_mul_right sz hfit
 have hrun := Zcb P l.blk (l.off + k * sz) t fz vs 0 cs w hc (by rw [hf.len]; omega) hf.one (fun x hx1 hx2 => hfz x (by omega) (by rw [hf.len] at hx2; omega)); simp only [Nat.add_zero] at hrun; have hlk : (rows.take k).length = k := (by simp; omega); have hcapR : (rows.take k ++ ys ++ rows.drop (k + ys.length)).length ≤ l.cap := by have := o.hcap; simp; omega
 have split3 : ∀ (i : Nat) r, (rows.take k ++ ys ++ rows.drop (k + ys.length))[i]? = some r → (i < k ∧ rows[i]? = some r) ∨ (k ≤ i ∧ i < k + ys.length ∧ ys[i - k]? = some r) ∨ (k + ys.length ≤ i ∧ rows[i]? = some r) := by
  intro i r hi; rw [List.append_assoc, List.getElem?_append, hlk] at hi
  split at hi
  ·rename_i h1; rw [List.getElem?_take, if_pos h1] at hi; exact .inl ⟨h1, hi⟩
  ·rename_i h1; rw [List.getElem?_append] at hi
   split at hi
   ·rename_i h2; exact .inr (.inl ⟨by omega, by omega, hi⟩)
   ·rename_i h2; rw [List.getElem?_drop] at hi; refine .inr (.inr ⟨by omega, ?_⟩); rw [← hi]; congr 1; omega
 refine ⟨_, hrun, Zb5 _ _ _, fun k hk => setRow_other _ _ _ _ hk, ⟨o.pos, o.hsz, rfl, hcapR, fun i r hi => ?_, ⟨_, t, fz, setRow_heap w _ cs _ t _ hc, ?_, hfz, fun i r j c hi hj => ?_⟩, o.hh, fun cs' t' fz' e => by rw [setRow_heap w _ cs _ t _ hc] at e; cases e; exact (o.hfz _ _ _ hc).imp (fun z => z) fun q => ⟨q.1, by simp [hf.len]; omega⟩, o.hcm⟩⟩
 ·rcases split3 i r hi with ⟨_, e⟩ | ⟨_, _, e⟩ | ⟨_, e⟩
  ·exact o.hrow _ _ e
  ·exact hf.row _ _ e
  ·exact o.hrow _ _ e
 ·simp [hf.len]; omega
 ·simp only [List.getElem?_toArray]; have l1 : (List.take (l.off + k * sz) cs.toList).length = l.off + k * sz := by simp; omega
  rcases split3 i r hi with ⟨hlt, e⟩ | ⟨h1, h2, e⟩ | ⟨h1, e⟩
  ·obtain ⟨v, e1, e2, e3⟩ := hv i r j c e hj; have hjl : j < sz := by have := (List.getElem?_eq_some_iff.1 hj).1; rw [o.hrow i r e] at this; exact this
   have := Zkb hlt hjl; refine ⟨v, ?_, e2, e3⟩; rw [List.append_assoc, List.getElem?_append_left (by rw [l1]; omega), List.getElem?_take, if_pos (by omega)]
   simpa using e1
  ·obtain ⟨v, e1, e2⟩ := hf.cell _ r j c e hj; refine ⟨v, ?_, e2, hf.one v (List.mem_of_getElem? e1)⟩; have hle : k * sz ≤ i * sz := Nat.mul_le_mul_right sz h1; have hlv := (List.getElem?_eq_some_iff.1 e1).1; rw [Nat.sub_mul] at e1 hlv; rw [List.getElem?_append_left (by rw [List.length_append, l1]; omega), List.getElem?_append_right (by rw [l1]; omega), l1, ← e1]; congr 1; omega
  ·obtain ⟨v, e1, e2, e3⟩ := hv i r j c e hj; refine ⟨v, ?_, e2, e3⟩; have hle : (k + ys.length) * sz ≤ i * sz := Nat.mul_le_mul_right sz h1; rw [Nat.add_mul] at hle; rw [List.getElem?_append_right (by rw [List.length_append, l1, hf.len]; omega), List.length_append, l1, hf.len, List.getElem?_drop]; rw [← Array.getElem?_toList] at e1; rw [← e1]; congr 1; omega

theorem OwnOK.first {l : Loc} {sz : Nat} {rows : List (List SV)} (o : OwnOK h w l sz rows) (n : Nat) (hn : n ≤ rows.length) : OwnOK h w { l with len := n } sz (rows.take n) := by
 obtain ⟨cs, t, fz, hc, hs, hfz, hv⟩ := o.hblk
 have sub : ∀ (i : Nat) r, (rows.take n)[i]? = some r → rows[i]? = some r := fun i r hi => by
  rw [List.getElem?_take] at hi
  split at hi
  ·exact hi
  ·cases hi
 exact ⟨o.pos, o.hsz, by simp; omega, by simp; have := o.hcap; omega, fun i r hi => o.hrow i r (sub i r hi), ⟨cs, t, fz, hc, hs, hfz, fun i r j c hi hj => hv i r j c (sub i r hi) hj⟩, o.hh, o.hfz, o.hcm⟩

theorem Rep.kosl (n : Nat) {ρ' : Nat → Loc} (hρ : ∀ i, i ≠ n → ρ' i = ρ i) (hs : (ρ' n).blk = (ρ n).blk ∧ (ρ' n).off = (ρ n).off ∧ (ρ' n).sz = (ρ n).sz ∧ (ρ' n).cap = (ρ n).cap ∧ (ρ' n).none = (ρ n).none) {v : Value} {s : SV} (r : Rep h ρ v s) : Rep h ρ' v (hmap (koslG n) s) := by
 refine r.turn fun v s hl r => ?_
 have hb : ∀ i, (ρ' i).blk = (ρ i).blk ∧ (ρ' i).off = (ρ i).off ∧ (ρ' i).sz = (ρ i).sz ∧ (ρ' i).cap = (ρ i).cap ∧ (ρ' i).none = (ρ i).none := fun i => by
  by_cases e : i = n
  ·subst e; exact hs
  ·rw [hρ i e]; exact ⟨rfl, rfl, rfl, rfl, rfl⟩
 cases r with
 | pure _ _ hp =>
  have : koslG n s = s := by cases hp <;> first | rfl | (simp [Zbx] at hl)
  rw [this]; exact .pure _ _ hp
 | agg => simp [Zbx] at hl
 | tup => simp [Zbx] at hl
 | ptr id off => simp only [koslG]; rw [← (hb id).1]; exact .ptr id off
 | bsl id off k => simp only [koslG]; rw [← (hb id).1]; exact .bsl id off k
 | osl0 id p hn =>
  by_cases e : id = n
  ·subst e; simp only [koslG, Nat.beq_refl, cond_true]; exact .pure _ _ (.unk _)
  ·simp only [koslG, Zaq e, cond_false]; exact .osl0 id p (by rw [hρ id e]; exact hn)
 | osl id hn =>
  by_cases e : id = n
  ·subst e; simp only [koslG, Nat.beq_refl, cond_true]; exact .pure _ _ (.unk _)
  ·simp only [koslG, Zaq e, cond_false]; rw [← hρ id e] at hn ⊢; exact .osl id hn
 | eptr id e i off hn => simp only [koslG]; obtain ⟨b1, b2, b3, b4, b5⟩ := hb id; rw [← b1, ← b2, ← b3]; exact .eptr id e i off (by rw [b5]; exact hn)
 | osv id l hh c p h0 h1 h2 hc hp => simp only [koslG]; obtain ⟨b1, b2, b3, b4, b5⟩ := hb id; exact .osv id l hh c p h0 h1 h2 (by rw [b4, b5]; exact hc) (by rw [b1, b2, b3]; exact hp)
 | omp id => simp only [koslG]; rw [← (hb id).1]; exact .omp id
 | aptr id i => simp only [koslG]; rw [← (hb id).1]; exact .aptr id i
 | asl id l hh cap => simp only [koslG]; rw [← (hb id).1]; exact .asl id l hh cap

theorem FitsAt.rows {w' : World} {id sz : Nat} {rows rows' : List (List SV)} (F : FitsAt X h ρ st a w) (ho : oget st.objs id = some (.own sz rows)) (hn : (ρ id).none = false) (hid : idOK id = true)
  (hk : Keeps (fun b => b = (ρ id).blk) w w') (hoth : ∀ b, b ≠ (ρ id).blk → w'.heap[b]? = w.heap[b]?) (hown : OwnOK h w' { ρ id with len := rows'.length } sz rows') :
  FitsAt X h (upd ρ id { ρ id with len := rows'.length }) (st.rows id sz rows') a w' := by
 have hlv : live st.objs ρ id := ⟨⟨_, ho⟩, hn⟩
 have hno := (F.obj id _ ho).hno hn; have hρ : ∀ i, i ≠ id → upd ρ id { ρ id with len := rows'.length } i = ρ i := fun i hi => Zii ρ _ hi; have hrep : ∀ v s, Rep h ρ v s → Rep h (upd ρ id { ρ id with len := rows'.length }) v (hmap (koslG id) s) := fun v s r => r.kosl id hρ (by rw [Zad]; exact ⟨rfl, rfl, rfl, rfl, rfl⟩)
 have hobs : ∀ i o, oget (oput (hmapO (koslG id) st.objs) id (.own sz rows')) i = some o → (i = id ∧ o = .own sz rows') ∨ (i ≠ id ∧ ∃ o', oget st.objs i = some o' ∧ o = Zd5 (koslG id) o') := by
  intro i o e; rw [Zhi] at e
  split at e
  ·rename_i hi; subst hi; rw [Zf3, ho] at e; simp at e; exact .inl ⟨rfl, e.symm⟩
  ·rename_i hi; exact .inr ⟨fun x => hi x.symm, Zaj e⟩
 refine F.turn (koslG id) _ hrep (fun i o e => ?_) (fun i hi => ?_) (fun b x v e => ?_) (HLe.refl h) (fun _ _ _ _ e => e) ?_ (fun i hi => ?_)
 ·rcases hobs i o e with ⟨rfl, rfl⟩ | ⟨hne, o', e', rfl⟩
  ·exact .inr ⟨by rw [Zad]; exact hn, by rw [Zad]; exact hown⟩
  ·refine (F.obj i o' e').turn hrep (HLe.refl h) (hρ i hne) (fun hni => hoth _ ?_) (fun _ _ e => e); exact F.inj i id ⟨⟨o', e'⟩, hni⟩ hlv hne
 ·obtain ⟨⟨o, e⟩, hni⟩ := hi
  rcases hobs i o e with ⟨rfl, rfl⟩ | ⟨hne, o', e', rfl⟩
  ·rw [Zad]; exact ⟨hlv, rfl⟩
  ·rw [hρ i hne] at hni ⊢; exact ⟨⟨⟨o', e'⟩, hni⟩, rfl⟩
 ·have hb : b ≠ (ρ id).blk := fun hb => by subst hb; rw [hno x] at e; cases e
  have := F.sub b x v e; unfold World.cell? at this ⊢; simp only [] at this ⊢; rw [hoth b hb]; exact this
 ·refine F.kp.step hk (fun k hk => ?_); subst hk; exact F.own id hlv
 ·refine hρ i (fun e => ?_); subst e; rw [hid] at hi; cases hi

theorem Zq5 (n : Nat) {s : SV} (hs : Zbx s = true) : Zbx (killG n s) = true := by
 have cb : ∀ (b : Bool) (x : SV), Zbx x = true → Zbx (bif b then .unk else x) = true := fun b x hx => by cases b; exact hx; rfl
 cases s with
 | ptr => exact cb _ _ rfl
 | bsl => exact cb _ _ rfl
 | osl => exact cb _ _ rfl
 | eptr => exact cb _ _ rfl
 | osv => exact cb _ _ rfl
 | omp => exact cb _ _ rfl
 | aptr => exact cb _ _ rfl
 | asl => exact cb _ _ rfl
 | _ => exact hs

theorem FitsAt.opn {id nid sz : Nat} {rows : List (List SV)} (F : FitsAt X h ρ st a w) (ho : oget st.objs id = some (.own sz rows)) (hid : idOK nid = true) :
  ∃ c : Int, rlen rows ≤ c ∧ c ≤ 9223372036854775807 ∧ FitsAt X h (upd ρ nid (ρ id)) (st.opn id nid sz rows c) a w := by
 have key : ∃ c : Int, (rlen rows ≤ c ∧ c ≤ 9223372036854775807) ∧ (c = if (ρ id).none then 0 else ((ρ id).cap : Int)) ∧ ((ρ id).none = false → (ρ id).len = rows.length) ∧ ((ρ id).none = true → rows = []) := by
  rcases F.obj id _ ho with ⟨hn, rfl⟩ | ⟨hn, o⟩
  ·exact ⟨0, ⟨by simp [rlen], by omega⟩, by simp [hn], by simp [hn], fun _ => rfl⟩
  ·exact ⟨(ρ id).cap, ⟨by have := o.hcap; simp [rlen]; exact this, by have := o.hcm; omega⟩, by simp [hn], fun _ => o.hlen, by simp [hn]⟩
 obtain ⟨c, ⟨hc, hcm⟩, hcc, hlen, hnil⟩ := key; have hρ : ∀ i, i ≠ nid → upd ρ nid (ρ id) i = ρ i := fun i hi => Zii ρ _ hi
 have hrep : ∀ v s, Rep h ρ v s → Rep h (upd ρ nid (ρ id)) v (hmap (opnG id nid (rlen rows) c) s) := fun v s r => by
  refine r.turn fun v s hl r => ?_; have two : ∀ s, Zbx s = true → Rep h ρ v s → Rep h (upd ρ nid (ρ id)) v (killG nid (killG id s)) := fun s hs r => by have r1 := r.kill id (HLe.refl h) (ρ' := ρ) (fun _ _ => rfl); rw [Zj7 hs] at r1; have r2 := r1.kill nid (HLe.refl h) hρ; rw [Zj7 (Zq5 id hs)] at r2; exact r2
  have one : ∀ s, Zbx s = true → Rep h ρ v s → Rep h (upd ρ nid (ρ id)) v (killG nid s) := fun s hs r => by have r2 := r.kill nid (HLe.refl h) hρ; rwa [Zj7 hs] at r2
  cases s with
  | osl i =>
   by_cases e : i = id
   ·subst e; simp only [opnG, Nat.beq_refl, cond_true]
    rcases r.osl_inv with ⟨hn, p, rfl⟩ | ⟨hn, rfl⟩
    ·have e1 := hnil hn; subst e1; rw [hn] at hcc; simp at hcc; subst hcc; exact .osv nid 0 0 0 p (by omega) (by omega) (by omega) (by rw [Zad]; simp [hn]) (by omega)
    ·have e1 := hlen hn; have := Rep.osv (h := h) (ρ := upd ρ nid (ρ i)) nid 0 (rlen rows) c (some ⟨(ρ i).blk, (ρ i).off, none⟩) (by omega) (by simp [rlen]) hc (by rw [Zad]; exact hcc) (fun _ => by rw [Zad]; simp); rw [hn] at hcc; simp at hcc; subst hcc
     simpa [rlen, e1] using this
   ·simp only [opnG, Zaq e, cond_false]; exact one _ rfl r
  | agg => simp [Zbx] at hl
  | tup => simp [Zbx] at hl
  | gd => simp [Zbx] at hl
  | _ => exact two _ rfl r
 have hobs : ∀ i o, oget ((nid, .own sz rows) :: hmapO (opnG id nid (rlen rows) c) (Px.odel (Px.odel st.objs id) nid)) i = some o → (i = nid ∧ o = .own sz rows) ∨ (i ≠ nid ∧ i ≠ id ∧ ∃ o', oget st.objs i = some o' ∧ o = Zd5 (opnG id nid (rlen rows) c) o') := by
  intro i o e; rw [Zbp] at e
  split at e
  ·rename_i hi; subst hi; cases e; exact .inl ⟨rfl, rfl⟩
  ·obtain ⟨o', e', rfl⟩ := Zaj e; obtain ⟨h1, e2⟩ := Zai e'; obtain ⟨h2, e3⟩ := Zai e2; exact .inr ⟨h1, h2, o', e3, rfl⟩
 refine ⟨c, hc, hcm, ?_⟩
 have hrl : ∀ i, live ((nid, .own sz rows) :: hmapO (opnG id nid (rlen rows) c) (Px.odel (Px.odel st.objs id) nid)) (upd ρ nid (ρ id)) i → ∃ j, live st.objs ρ j ∧ (upd ρ nid (ρ id) i).blk = (ρ j).blk ∧ (i = nid → j = id) ∧ (i ≠ nid → j = i ∧ i ≠ id) := by
  rintro i ⟨⟨o, e⟩, hni⟩
  rcases hobs i o e with ⟨rfl, rfl⟩ | ⟨h1, h2, o', e', rfl⟩
  ·rw [Zad] at hni ⊢; exact ⟨id, ⟨⟨_, ho⟩, hni⟩, rfl, fun _ => rfl, fun hx => absurd rfl hx⟩
  ·rw [hρ i h1] at hni ⊢; exact ⟨i, ⟨⟨o', e'⟩, hni⟩, rfl, fun hx => absurd hx h1, fun _ => ⟨rfl, h2⟩⟩
 refine { F with size := by simp [St.opn, Zbw, F.size], tm := fun t s hs => ?_, obj := fun i o e => ?_, inj := fun i j hi hj hij => ?_, own := fun i hi => ?_, pin := fun i l e => ?_ }
 ·simp only [St.opn, hmapL_getElem?] at hs
  cases hx : st.tmps[t]? with
  | none => simp [hx] at hs
  | some x => simp [hx] at hs; subst hs; exact (F.tm t x hx).turn (fun s r => hrep _ s r)
 ·rcases hobs i o e with ⟨rfl, rfl⟩ | ⟨h1, h2, o', e', rfl⟩
  ·have := F.obj id _ ho; simp only [ObOK, Zad]; exact this
  ·exact (F.obj i o' e').turn hrep (HLe.refl h) (hρ i h1) (fun _ => rfl) (fun _ _ e => e)
 ·obtain ⟨i', hi', ei, ei1, ei2⟩ := hrl i hi; obtain ⟨j', hj', ej, ej1, ej2⟩ := hrl j hj; rw [ei, ej]; refine F.inj i' j' hi' hj' (fun e => ?_); by_cases h1 : i = nid
  ·by_cases h2 : j = nid
   ·exact hij (h1.trans h2.symm)
   ·have := ei1 h1; have := ej2 h2; exact this.2 (by rw [← this.1, ← e]; assumption)
  ·by_cases h2 : j = nid
   ·have := ej1 h2; have := ei2 h1; exact this.2 (by rw [← this.1, e]; assumption)
   ·exact hij (by rw [← (ei2 h1).1, ← (ej2 h2).1]; exact e)
 ·obtain ⟨i', hi', ei, _⟩ := hrl i hi; rw [ei]; exact F.own i' hi'
 ·refine ⟨?_, (F.pin i l e).2⟩; rw [hρ i (fun x => by subst x; rw [(F.pin i l e).2] at hid; cases hid)]; exact (F.pin i l e).1

theorem Zje {gv : List (Nat × Bool) → Operand → SV} (hsv : ∀ x, Rep h ρ (a.eval x) (gv [] x)) {x : Operand} {n l : Int} (e : bndOf gv n (some x) = some l) : ∃ kd, a.eval x = .int kd l := by
 simp only [bndOf] at e
 split at e
 ·rename_i kd n' hx
  cases e
  have := hsv x; rw [hx] at this; exact ⟨kd, this.val_inv⟩
 ·cases e

theorem Zwm {gv : List (Nat × Bool) → Operand → SV} {w' : World} (hsv : ∀ x, Rep h ρ (a.eval x) (gv [] x)) (len cap : Nat) {lo hi : Option Operand} {l h' : Int}
  (hl : bndOf gv 0 lo = some l) (hh : bndOf gv (Int.ofNat len) hi = some h') (h0 : 0 ≤ l) (h1 : l ≤ h') (h3 : h' ≤ (cap : Int)) :
  (Instr.sliceBounds true len cap (lo.map a.eval) (hi.map a.eval) none).run P w' = .ok (l.toNat, h'.toNat, cap) w' := by
 cases lo with
 | none =>
  simp [bndOf] at hl; subst hl
  cases hi with
  | none => simp [bndOf] at hh; subst hh; simp [Instr.sliceBounds]
  | some y =>
   obtain ⟨kd, hy⟩ := Zje hsv hh
   have : (0 : Int) ≤ h' ∧ h' ≤ (cap : Int) := ⟨by omega, h3⟩
   simp [Instr.sliceBounds, Instr.sliceBound, hy, asIntOf, this]
 | some x =>
  obtain ⟨kd, hx⟩ := Zje hsv hl
  cases hi with
  | none =>
   simp [bndOf] at hh; subst hh
   have : (0 : Int) ≤ l ∧ l ≤ (len : Int) := ⟨h0, h1⟩
   simp [Instr.sliceBounds, Instr.sliceBound, hx, asIntOf, this]
  | some y =>
   obtain ⟨kd', hy⟩ := Zje hsv hh
   have g1 : (0 : Int) ≤ h' ∧ h' ≤ (cap : Int) := ⟨by omega, h3⟩
   have g2 : (0 : Int) ≤ l ∧ l ≤ max h' 0 := ⟨h0, by omega⟩
   simp [Instr.sliceBounds, Instr.sliceBound, hx, hy, asIntOf, g1, g2]

theorem Zug {gv : List (Nat × Bool) → Operand → SV} {w' : World} (hsv : ∀ x, Rep h ρ (a.eval x) (gv [] x)) (len cap : Nat) {lo : Option Operand} {hi m : Operand} {kd : IntKind} {l h' mm : Int}
  (hl : bndOf gv 0 lo = some l) (hh : bndOf gv (Int.ofNat len) (some hi) = some h') (hm : a.eval m = .int kd mm) (h0 : 0 ≤ l) (h1 : l ≤ h') (h2 : h' ≤ mm) (h3 : mm ≤ (cap : Int)) :
  (Instr.sliceBounds true len cap (lo.map a.eval) (some (a.eval hi)) (some (a.eval m))).run P w' = .ok (l.toNat, h'.toNat, mm.toNat) w' := by
 obtain ⟨kd2, hhi⟩ := Zje hsv hh
 have g1 : (0 : Int) ≤ mm ∧ mm ≤ (cap : Int) := ⟨by omega, h3⟩
 have g3 : (0 : Int) ≤ h' ∧ h' ≤ max mm 0 := ⟨by omega, by omega⟩
 cases lo with
 | none => simp [bndOf] at hl; subst hl; simp [Instr.sliceBounds, Instr.sliceBound, hhi, hm, asIntOf, g1, g3]
 | some x =>
  obtain ⟨kd3, hx⟩ := Zje hsv hl
  have g2 : (0 : Int) ≤ l ∧ l ≤ max h' 0 := ⟨h0, by omega⟩
  simp [Instr.sliceBounds, Instr.sliceBound, hhi, hm, hx, asIntOf, g1, g2, g3]

theorem Zh8 (F : FitsAt X h ρ st a w) {id sz : Nat} {rows : List (List SV)} (ho : oget st.objs id = some (.own sz rows)) {c : Int} (hc : c = if (ρ id).none then 0 else ((ρ id).cap : Int)) (hpos : 0 < c) :
  (ρ id).none = false ∧ OwnOK h w (ρ id) sz rows ∧ c = (ρ id).cap := by
 rcases F.obj id _ ho with ⟨hn, rfl⟩ | ⟨hn, o⟩
 ·rw [hn] at hc; simp at hc; omega
 ·rw [hn] at hc; simp at hc; exact ⟨hn, o, hc⟩

theorem Zh9 (F : FitsAt X h ρ st a w) (o : Oper) {t : TypeId} {x : Operand} {lo hi mx : Option Operand} {id : Nat} {l hh c : Int} (heq : o.op = .slice t x lo hi mx) (r : Rep h ρ (a.eval x) (.osv id l hh c)) (K : St → Prop)
  (hx : Zqy P o t lo hi mx id l hh c st K) : ∃ v, (∀ w', (execOp a.eval o).run P w' = .ok (.value v) w') ∧ Goes X K (a.put o.dst v) w := by
 obtain ⟨p, hv, h0, h1, h2, hc, hp⟩ := r.osv_inv; have hsv : ∀ x, Rep h ρ (a.eval x) ((fun (_ : List (Nat × Bool)) => st.val) [] x) := fun x => F.val x; unfold Zqy at hx
 split at hx
 ·rename_i e sz rows hu ho
  split at hx
  ·rename_i z x' y' hz hl hy
   cases hb : Nat.beq z sz with
   | false => simp [hb] at hx
   | true =>
    simp only [hb, cond_true] at hx; have := Nat.eq_of_beq_eq_true hb; subst this; obtain ⟨⟨b0, b1, b2⟩, hk⟩ := hx; simp only [isub] at b2 hy; have hrun : ∀ w', (execOp a.eval o).run P w' = .ok (.value (.slice (if (c - l).toNat = x'.toNat then p else p.map (·.add (x'.toNat * z))) (y'.toNat - x'.toNat) ((c - l).toNat - x'.toNat))) w' := fun w' => by have hb := Zwm (P := P) (w' := w') (hsv := hsv) (hh - l).toNat (c - l).toNat (lo := lo) (hi := hi) (l := x') (h' := y') hl (by rw [show Int.ofNat (hh - l).toNat = hh - l by simp; omega]; exact hy) b0 b1 (by omega); simp [execOp, heq, hv, Instr.sliceAt, Instr.slice, run_underlying hu, hb, run_sizeOf' w' hz]
    refine ⟨_, hrun, Goes.put F o.dst ?_ hk⟩
    have e1 : vbd l (lsum l x') lo = l + x' := by
     cases lo with
     | none => simp [bndOf] at hl; subst hl; simp [vbd]
     | some _ => rfl
    have e2 : vbd hh (lsum l y') hi = l + y' := by
     cases hi with
     | none => simp [bndOf] at hy; subst hy; show hh = _; omega
     | some _ => rfl
    rw [e1, e2]
    have := Rep.osv (h := h) (ρ := ρ) id (l + x') (l + y') c (if (c - l).toNat = x'.toNat then p else p.map (·.add (x'.toNat * z))) (by omega) (by omega) (by omega) hc (fun hlt => by
     obtain ⟨hn, own, hcc⟩ := Zh8 F ho hc (by omega); rw [if_neg (by omega), hp (by omega)]; simp only [Option.map_some, Zb0, own.hsz]
     rw [show (l + x').toNat = l.toNat + x'.toNat by omega, Nat.add_mul, Nat.add_assoc])
    rw [show (l + y' - (l + x')).toNat = y'.toNat - x'.toNat by omega, show (c - (l + x')).toNat = (c - l).toNat - x'.toNat by omega] at this; exact this
  ·rename_i z x' y' m hz hl hy
   split at hx
   ·rename_i hio kd mm hms
    cases hb : Nat.beq z sz with
    | false => simp [hb] at hx
    | true => simp only [hb, cond_true] at hx; obtain ⟨⟨b0, b1, b2, b3⟩, hk⟩ := hx; simp only [isub] at b3 hy; have hm := hsv m; simp only [] at hm; rw [hms] at hm; refine ⟨.slice (if mm.toNat = x'.toNat then p else p.map (·.add (x'.toNat * z))) (y'.toNat - x'.toNat) (mm.toNat - x'.toNat), fun w' => ?_, Goes.put F o.dst (.pure _ _ (.unk _)) hk⟩; have hb := Zug (P := P) (w' := w') (hsv := hsv) (hh - l).toNat (c - l).toNat (lo := lo) (hi := hio) (m := m) (l := x') (h' := y') hl (by rw [show Int.ofNat (hh - l).toNat = hh - l by simp; omega]; exact hy) hm.val_inv b0 b1 b2 (by omega); simp [execOp, heq, hv, Instr.sliceAt, Instr.slice, run_underlying hu, hb, run_sizeOf' w' hz]
   ·exact hx.elim
  ·exact hx.elim
 ·exact hx.elim

theorem Zn7 (F : FitsAt X h ρ st a w) {vy : Value} {id sz : Nat} {l hh c : Int} {rows : List (List SV)} (hr : Rep h ρ vy (.osv id l hh c)) (ho : oget st.objs id = some (.own sz rows)) {n : Int} (hn0 : 0 ≤ n) (hn : n ≤ hh - l) (hle : l + n ≤ rlen rows) :
  (rsub rows l (l + n)).length = n.toNat ∧ ∃ vs, Flat h sz (rsub rows l (l + n)) vs ∧ ∀ w' : World, (∀ b, b < w.heap.size → w'.heap[b]? = w.heap[b]?) → (Builtin.firstCells sz n.toNat vy).run P w' = .ok vs.toArray w' := by
 obtain ⟨p, rfl, h0, h1, h2, hc, hp⟩ := hr.osv_inv; simp only [rlen, Int.ofNat_eq_natCast] at hle; have hlen : (rsub rows l (l + n)).length = n.toNat := by simp [rsub]; omega
 refine ⟨hlen, ?_⟩; by_cases hz : n = 0
 ·subst hz; have : rsub rows l (l + 0) = [] := List.eq_nil_of_length_eq_zero (by rw [hlen]; rfl); rw [this]; refine ⟨[], Flat.nil sz, fun w' _ => ?_⟩
  cases p with
  | none => simp [Builtin.firstCells]
  | some ad => simp [Builtin.firstCells, loadCells, loadCellsFrom]
 ·obtain ⟨hnn, o, hcc⟩ := Zh8 F ho hc (by omega); obtain ⟨cs, t, fz, hcb, hs, hf, hv⟩ := o.hblk
  have sub : ∀ (i : Nat) r, (rsub rows l (l + n))[i]? = some r → rows[l.toNat + i]? = some r := fun i r hi => by
   simp only [rsub, List.getElem?_drop, List.getElem?_take] at hi
   split at hi
   ·exact hi
   ·cases hi
  obtain ⟨vs, hfl, hld⟩ := Zmt (P := P) (w := w) (b := (ρ id).blk) (off := (ρ id).off + l.toNat * sz) (rows := rsub rows l (l + n)) o.pos (fun i r hi => o.hrow _ r (sub i r hi)) (fun i r j c' hi hj => by
   obtain ⟨v, e1, e2, e3⟩ := hv _ r j c' (sub i r hi) hj; refine ⟨v, ?_, e2, e3⟩; rw [show (ρ id).off + (l.toNat + i) * sz + j = (ρ id).off + l.toNat * sz + i * sz + j by rw [Nat.add_mul]; omega] at e1
   simp [World.cell?, hcb, e1])
  refine ⟨vs, hfl, fun w' hw => ?_⟩; rw [hp (by omega)]; simp only [Builtin.firstCells]
  have hblt : (ρ id).blk < w.heap.size := by
   rcases Nat.lt_or_ge (ρ id).blk w.heap.size with h' | h'
   ·exact h'
   ·rw [Array.getElem?_eq_none h'] at hcb; cases hcb
  have := hld w' (hw _ hblt); rw [hlen] at this; rw [o.hsz]; exact this

theorem Zq6 (F : FitsAt X h ρ st a w) {t2 : TypeId} {y : SV} {vy : Value} {s : Option Int} {sz' : Option Nat} {ys : List (List SV)} {z : Nat} {K : Prop} (hr : Rep h ρ vy y) (e : srcV P st t2 y = some (s, sz', ys))
  (hz : srcOK z sz' = true) (hpos : 0 < z) (hs : sideV s K) :
  K ∧ (∃ d, P.underlying t2 = some d ∧ ∀ k, d ≠ .int k) ∧ (∀ w', (Builtin.lenOf vy).run P w' = .ok ys.length w') ∧
  ∃ vs, Flat h z ys vs ∧ ∀ w' : World, (∀ b, b < w.heap.size → w'.heap[b]? = w.heap[b]?) → (Builtin.firstCells z ys.length vy).run P w' = .ok vs.toArray w' := by
 unfold srcV at e
 split at e
 ·rename_i id l hh c
  split at e
  ·rename_i e0 sz rows hu ho
   cases e
   obtain ⟨hs1, hk⟩ := hs; simp only [isub] at hs1; obtain ⟨p, hv, h0, h1, h2, hc, hp⟩ := hr.osv_inv; have hzz : z = sz ∨ sz = 0 := (by simp only [srcOK, Bool.or_eq_true] at hz; exact hz.elim (fun e => .inl (Nat.eq_of_beq_eq_true e).symm) (fun e => .inr (Nat.eq_of_beq_eq_true e))); obtain ⟨hlen, vs, hf, hrun⟩ := Zn7 (P := P) F hr ho (n := hh - l) (by omega) (by omega) (by omega); rw [show l + (hh - l) = hh by omega] at hlen hf; refine ⟨hk, ⟨_, hu, by simp⟩, fun w' => by rw [hlen, hv]; simp [Builtin.lenOf], ?_⟩
   rcases hzz with rfl | h00
   ·exact ⟨vs, hf, fun w' hw => by rw [hlen]; exact hrun w' hw⟩
   ·have hnil : rsub rows l hh = [] := by
     rcases F.obj id _ ho with ⟨_, rfl⟩ | ⟨_, o⟩
     ·simp [rsub]
     ·have := o.pos; omega
    rw [hnil] at hlen ⊢; refine ⟨[], Flat.nil z, fun w' _ => ?_⟩; rw [hv]
    cases p with
    | none => simp [Builtin.firstCells]
    | some ad => simp [Builtin.firstCells, loadCells, loadCellsFrom]
  ·cases e
 ·simp at e; obtain ⟨sz2, ys2, e1, rfl, rfl, rfl⟩ := e; exact ⟨hs, Zd7 F hr e1 hz hpos⟩

theorem Zpp {d : Nat} (h : dstOK (some d) = true) : idOK (128 * d + 64) = true := by
 simp only [dstOK] at h; have h1 : d < 8191 := Nat.le_of_ble_eq_true h; have : Nat.blt (128 * d + 64) 1048576 = true := Nat.ble_eq_true_of_le (by omega); simp [idOK, this]

theorem FitsAt.rowsSame {id sz : Nat} {rows : List (List SV)} (F : FitsAt X h ρ st a w) (ho : oget st.objs id = some (.own sz rows)) : FitsAt X h ρ (st.rows id sz rows) a w := by
 have hrep : ∀ v s, Rep h ρ v s → Rep h ρ v (hmap (koslG id) s) := fun v s r => r.kosl id (fun _ _ => rfl) ⟨rfl, rfl, rfl, rfl, rfl⟩
 have hobs : ∀ i o, oget (oput (hmapO (koslG id) st.objs) id (.own sz rows)) i = some o → ∃ o', oget st.objs i = some o' ∧ o = Zd5 (koslG id) o' := by
  intro i o e; rw [Zhi] at e
  split at e
  ·rename_i hi; subst hi; rw [Zf3, ho] at e; simp at e; exact ⟨_, ho, by rw [← e]; rfl⟩
  ·exact Zaj e
 refine F.turn (koslG id) _ hrep (fun i o e => ?_) (fun i hi => ?_) F.sub (HLe.refl h) (fun _ _ _ _ e => e) F.kp (fun _ _ => rfl)
 ·obtain ⟨o', e', rfl⟩ := hobs i o e; exact (F.obj i o' e').turn hrep (HLe.refl h) rfl (fun _ => rfl) (fun _ _ e => e)
 ·obtain ⟨⟨o, e⟩, hni⟩ := hi; obtain ⟨o', e', rfl⟩ := hobs i o e; exact ⟨⟨⟨o', e'⟩, hni⟩, rfl⟩

def Frm (st : St) (ρ : Nat → Loc) (id : Nat) (w w' : World) : Prop := ∀ b, b < w.heap.size → (live st.objs ρ id → (ρ id).blk ≠ b) → w'.heap[b]? = w.heap[b]?

theorem Zq7 (F : FitsAt X h ρ st a w) (o : Oper) {t1 t2 : TypeId} {x y : Operand} {id : Nat} {l hh c : Int} (heq : o.op = .call { callee := .builtin .append, args := ⟨[x, y]⟩, argTypes := ⟨[t1, t2]⟩ })
  (r : Rep h ρ (a.eval x) (.osv id l hh c)) (K : St → Prop) (hx : appV P o t1 t2 (st.val y) id l hh c st K) :
  ∃ v w', (execOp a.eval o).run P w = .ok (.value v) w' ∧ Goes X K (a.put o.dst v) w' ∧ w.heap.size ≤ w'.heap.size ∧ Frm st ρ id w w' := by
 obtain ⟨p, hv, h0, h1, h2, hc, hp⟩ := r.osv_inv; unfold appV at hx
 split at hx
 ·rename_i e d s sz' ys sz rows hu hd hsrc ho
  split at hx
  ·rename_i z hz
   cases hb : (Zce P e && srcOK z sz' && Nat.beq z sz && dstOK o.dst && idOK id) with
   | false => simp only [hb, cond_false] at hx
   | true =>
    simp only [hb, cond_true] at hx; simp only [Bool.and_eq_true] at hb; obtain ⟨⟨⟨⟨hb1, hb2⟩, hb3⟩, hb4⟩, hb5⟩ := hb; have := Nat.eq_of_beq_eq_true hb3; subst this; obtain ⟨i, zv, hi, hby, hpos, hzz, hzc, hszT⟩ := Zcm hb1; have hzi : z = i.size := by rw [hszT] at hz; cases hz; rfl
    subst hzi; obtain ⟨⟨hle, k1, k2⟩, ⟨d2, hu2, hd2⟩, hlen, vs, hf, hcells⟩ := Zq6 (P := P) F (F.val y) hsrc hb2 hpos hx; simp only [rlen, lsum, isub, Int.ofNat_eq_natCast] at hle k1 k2; have hrun' : ∀ v w', (Builtin.append_ #[t1, t2] o.type #[a.eval x, a.eval y]).run P w = .ok v w' → (execOp a.eval o).run P w = .ok (.value v) w' := fun v w' e => by simp [execOp, heq, resolve, invoke, builtin, e]
    by_cases hfit : hh + ys.length ≤ c
    ·have k1 := k1 hfit; have hrep : ∀ ρ' : Nat → Loc, (ρ' id).blk = (ρ id).blk → (ρ' id).off = (ρ id).off → (ρ' id).sz = (ρ id).sz → (ρ' id).cap = (ρ id).cap → (ρ' id).none = (ρ id).none → Rep h ρ' (.slice p ((hh - l).toNat + ys.length) (c - l).toNat) (.osv id l (hh + ys.length) c) := fun ρ' b1 b2 b3 b4 b5 => by have := Rep.osv (h := h) (ρ := ρ') id l (hh + ys.length) c p h0 (by omega) hfit (by rw [b4, b5]; exact hc) (by rw [b1, b2, b3]; exact hp); rw [show (hh + ↑ys.length - l).toNat = (hh - l).toNat + ys.length by omega] at this; exact this
     by_cases hnull : ys = []
     ·subst hnull; have hvs : vs = [] := List.eq_nil_of_length_eq_zero (by rw [hf.len]; simp); subst hvs; have hrun := Zes (P := P) (ty := o.type) hu hi hu2 hd2 (hlen w) (hcells w (fun _ _ => rfl)) (p := p) (n := (hh - l).toNat) (cap := (c - l).toNat) (by simp; omega) (w' := w) (by cases p <;> simp [storeCells]); rw [← hv] at hrun; refine ⟨_, _, hrun' _ _ hrun, ?_, Nat.le_refl _, fun _ _ _ => rfl⟩; have hro : rput rows hh [] = rows := (by simp [rput]); rw [hro] at k1; exact Goes.put (F.rowsSame ho) o.dst (hrep ρ rfl rfl rfl rfl rfl) k1
     ·have hyl : 0 < ys.length := List.length_pos_iff.2 hnull; obtain ⟨hn, own, hcc⟩ := Zh8 F ho hc (by omega); obtain ⟨w', hst, hk, hoth, hown⟩ := own.write (P := P) hf (k := hh.toNat) (by omega) (by omega)
      have hrun := Zes (P := P) (ty := o.type) hu hi hu2 hd2 (hlen w) (hcells w (fun _ _ => rfl)) (p := p) (n := (hh - l).toNat) (cap := (c - l).toNat) (by omega) (w' := w') (by
       rw [hp (by omega)]; simp only [Zb0, own.hsz]; rw [show (ρ id).off + l.toNat * i.size + (hh - l).toNat * i.size = (ρ id).off + hh.toNat * i.size by rw [Nat.add_assoc, ← Nat.add_mul, show l.toNat + (hh - l).toNat = hh.toNat by omega]]
       exact hst)
      rw [← hv] at hrun; refine ⟨_, _, hrun' _ _ hrun, ?_, hk.size, fun b _ hb => hoth b (fun e => hb ⟨⟨_, ho⟩, hn⟩ e.symm)⟩; exact Goes.put (F.rows ho hn hb5 hk hoth hown) o.dst (hrep _ (by rw [Zad]) (by rw [Zad]) (by rw [Zad]) (by rw [Zad]) (by rw [Zad])) k1
    ·obtain ⟨hmax, k2⟩ := k2 (by omega); rw [hd] at hb4; have hid := Zpp hb4; obtain ⟨hlo, old, hfo, hro⟩ := Zn7 (P := P) F r ho (n := hh - l) (by omega) (by omega) (by simp only [rlen, Int.ofNat_eq_natCast]; omega); rw [show l + (hh - l) = hh by omega] at hlo hfo
     obtain ⟨nc, hnc, hnm, hrun⟩ := Ze8 (P := P) (ty := o.type) (p := p) (n := (hh - l).toNat) (cap := (c - l).toNat) (old := old) hu hi hzz hby hu2 hd2 (hlen w) (by omega) (by simp only [most] at hmax; omega) (hcells w.drew (fun _ _ => rfl)) (by
      rw [← hv]; exact hro w.drew (fun _ _ => rfl))
     rw [← hv] at hrun; refine ⟨_, _, hrun' _ _ hrun, ?_, (Zal w _).size, fun b hb _ => (Zal w _).block b hb (fun e => e)⟩; have hrl : (rapp (rsub rows l hh) ys).length = (hh - l).toNat + ys.length := by simp [rapp, hlo]
     have hown : OwnOK h (w.drew.alloc (.cells (old.toArray ++ vs.toArray ++ Builtin.zeroCells zv.cells (nc - ((hh - l).toNat + ys.length))) e)) ⟨w.heap.size, 0, (rapp (rsub rows l hh) ys).length, nc, i.size, false⟩ i.size (rapp (rsub rows l hh) ys) := by
      refine Zo8 (fz := (0, 0)) (e := e) (cs := old.toArray ++ vs.toArray ++ Builtin.zeroCells zv.cells (nc - ((hh - l).toNat + ys.length))) (hfo.append hf) hpos (by rw [hrl]; exact hnc) hnm (by show (w.heap.push _)[_]? = _; simp) ?_ (fun o _ => by simp) (fun o => Zcy F.sub o _ (Nat.le_refl _)) (.inl rfl) (fun k v hk => ?_)
      ·simp only [Array.size_append, List.size_toArray, hfo.len, hf.len, hlo, Builtin.zeroCells, Array.size_map, Array.size_range, hzc]; rw [← Nat.add_mul, ← Nat.add_mul]; exact Nat.mul_le_mul_right _ (by omega)
      ·have hk' := (List.getElem?_eq_some_iff.1 hk).1; rw [Array.getElem?_append_left (by simpa using hk')]
       simpa using hk
     have F1 := F.newOwn (128 * d + 64) hid (.own i.size (rapp (rsub rows l hh) ys)) ⟨w.heap.size, 0, (rapp (rsub rows l hh) ys).length, nc, i.size, false⟩ (Zal w _) (by simp) (fun _ => Nat.le_refl _) (.inr ⟨by rw [Zad], by rw [Zad]; exact hown⟩); have hR := Rep.osl (h := h) (ρ := upd ρ (128 * d + 64) ⟨w.heap.size, 0, (rapp (rsub rows l hh) ys).length, nc, i.size, false⟩) (128 * d + 64) (by rw [Zad]); rw [Zad] at hR; simp only [hrl] at hR; simp only [hrl] at F1; exact Goes.put F1 o.dst hR k2
  ·exact hx.elim
 ·exact hx.elim

theorem Zpq {t1 t2 e ty : TypeId} {z m n dl dc : Nat} {p : Option Addr} {vy : Value} {vs : List Value} {w' : World} (hu : P.underlying t1 = some (.slice e)) (hz : szT P e = some z) (hlen : (Builtin.lenOf vy).run P w = .ok m w) (hn : n = Nat.min m dl)
  (hsrc : (Builtin.firstCells z n vy).run P w = .ok vs.toArray w) (hst : match p with | some ad => (storeCells ad vs).run P w = .ok () w' | none => w' = w) :
  (Builtin.copy_ #[t1, t2] ty #[.slice p dl dc, vy]).run P w = .ok (goInt n) w' := by
 subst hn
 cases p with
 | none => simp at hst; rw [hst]; simp [Builtin.copy_, run_underlying hu, hlen, run_sizeOf' w hz, hsrc]
 | some ad => simp at hst; simp [Builtin.copy_, run_underlying hu, hlen, run_sizeOf' w hz, hsrc, hst]

theorem putV (F : FitsAt X h ρ st a w) {id sz : Nat} {l hh c : Int} {rows ys : List (List SV)} {vs : List Value} {p : Option Addr} (ho : oget st.objs id = some (.own sz rows)) (hid : idOK id = true) (h0 : 0 ≤ l) (h2 : hh ≤ c)
  (hc : c = if (ρ id).none then 0 else ((ρ id).cap : Int)) (hp : l < c → p = some ⟨(ρ id).blk, (ρ id).off + l.toNat * (ρ id).sz, none⟩) (hf : Flat h sz ys vs) (hl : l ≤ rlen rows) (hfit : l + ys.length ≤ hh) :
  ∃ w' ρ', (match p with | some ad => (storeCells ad vs).run P w = .ok () w' | none => w' = w) ∧ FitsAt X h ρ' (st.rows id sz (rput rows l ys)) a w' ∧ w.heap.size ≤ w'.heap.size ∧ Frm st ρ id w w' := by
 simp only [rlen, Int.ofNat_eq_natCast] at hl
 by_cases hnull : ys = []
 ·subst hnull; have hvs : vs = [] := List.eq_nil_of_length_eq_zero (by rw [hf.len]; simp); subst hvs; have hro : rput rows l [] = rows := (by simp [rput]); rw [hro]; exact ⟨w, ρ, by cases p <;> simp [storeCells], F.rowsSame ho, Nat.le_refl _, fun _ _ _ => rfl⟩
 ·have hyl : 0 < ys.length := List.length_pos_iff.2 hnull; obtain ⟨hn, own, hcc⟩ := Zh8 F ho hc (by omega); obtain ⟨w', hst, hk, hoth, hown⟩ := own.write (P := P) hf (k := l.toNat) (by omega) (by omega); refine ⟨w', _, ?_, F.rows ho hn hid hk hoth hown, hk.size, fun b _ hb => hoth b (fun e => hb ⟨⟨_, ho⟩, hn⟩ e.symm)⟩; rw [hp (by omega)]; simp only [own.hsz]; exact hst

theorem Zuh (a b : Int) : imin a b = min a b := by unfold imin; split <;> omega

theorem Zn8 (F : FitsAt X h ρ st a w) (o : Oper) {t1 t2 : TypeId} {x y : Operand} {id : Nat} {l hh c : Int} (heq : o.op = .call { callee := .builtin .copy, args := ⟨[x, y]⟩, argTypes := ⟨[t1, t2]⟩ })
  (r : Rep h ρ (a.eval x) (.osv id l hh c)) (K : St → Prop) (hx : copyV P o t1 t2 (st.val y) id l hh st K) :
  ∃ v w', (execOp a.eval o).run P w = .ok (.value v) w' ∧ Goes X K (a.put o.dst v) w' ∧ w.heap.size ≤ w'.heap.size ∧ Frm st ρ id w w' := by
 obtain ⟨p, hv, h0, h1, h2, hc, hp⟩ := r.osv_inv; have hrun' : ∀ v w', (Builtin.copy_ #[t1, t2] o.type #[a.eval x, a.eval y]).run P w = .ok v w' → (execOp a.eval o).run P w = .ok (.value v) w' := fun v w' e => by simp [execOp, heq, resolve, invoke, builtin, e]
 have hry := F.val y; unfold copyV at hx
 split at hx
 ·rename_i e e2 sz rows hu hu2 ho
  split at hx
  ·rename_i z hz
   cases hb : (Nat.beq z sz && idOK id) with
   | false => simp only [hb, cond_false] at hx
   | true =>
    simp only [hb, cond_true] at hx; simp only [Bool.and_eq_true] at hb; obtain ⟨hb1, hb2⟩ := hb; have := Nat.eq_of_beq_eq_true hb1; subst this
    split at hx
    ·rename_i id2 l2 h2' c2 hys; rw [hys] at hry
     split at hx
     ·rename_i sz2 rows2 ho2
      cases hb3 : Nat.beq z sz2 with
      | false => simp only [hb3, cond_false] at hx
      | true => simp only [hb3, cond_true] at hx; have := Nat.eq_of_beq_eq_true hb3; subst this; obtain ⟨⟨g1, g2⟩, hk⟩ := hx; obtain ⟨p2, hv2, q0, q1, q2, _, _⟩ := hry.osv_inv; have hmin : 0 ≤ imin (isub h2' l2) (isub hh l) ∧ imin (isub h2' l2) (isub hh l) ≤ h2' - l2 ∧ imin (isub h2' l2) (isub hh l) ≤ hh - l ∧ (imin (isub h2' l2) (isub hh l)).toNat = Nat.min (h2' - l2).toNat (hh - l).toNat := (by rw [Zuh]; simp only [isub]; exact ⟨by omega, by omega, by omega, by show _ = min _ _; omega⟩); generalize hN : imin (isub h2' l2) (isub hh l) = N at *; obtain ⟨m0, m1, m2, m3⟩ := hmin; simp only [lsum] at g2 hk; obtain ⟨hlen, vs, hf, hsrc⟩ := Zn7 (P := P) F hry ho2 (n := N) m0 m1 g2; obtain ⟨w', ρ', hst, F1, hsz, hfr⟩ := putV (P := P) F ho hb2 h0 h2 hc hp hf g1 (by rw [hlen]; omega); have hrun := Zpq (P := P) (ty := o.type) (t2 := t2) (vy := a.eval y) (m := (h2' - l2).toNat) (n := N.toNat) (dl := (hh - l).toNat) (dc := (c - l).toNat) hu hz (by rw [hv2]; simp [Builtin.lenOf]) m3 (hsrc w (fun _ _ => rfl)) hst; rw [← hv] at hrun; refine ⟨_, _, hrun' _ _ hrun, Goes.put F1 o.dst (.pure _ _ ?_) hk, hsz, hfr⟩; rw [show (goInt N.toNat) = .int .i64 N by simp [goInt]; omega]; exact .val _
     ·exact hx.elim
    ·rename_i hne
     split at hx
     ·rename_i sz' ys hsrc
      cases hb3 : (srcOK z sz' && Nat.blt 0 z) with
      | false => simp only [hb3, cond_false] at hx
      | true => simp only [hb3, cond_true] at hx; simp only [Bool.and_eq_true] at hb3; obtain ⟨⟨g1, g2⟩, hk⟩ := hx; obtain ⟨_, hlen, vs, hf, hcells⟩ := Zd7 (P := P) F hry hsrc hb3.1 (Nat.le_of_ble_eq_true hb3.2); simp only [rlen, isub, Int.ofNat_eq_natCast] at g2; obtain ⟨w', ρ', hst, F1, hsz, hfr⟩ := putV (P := P) F ho hb2 h0 h2 hc hp hf g1 (by omega); have hrun := Zpq (P := P) (ty := o.type) (t2 := t2) (vy := a.eval y) (m := ys.length) (n := ys.length) (dl := (hh - l).toNat) (dc := (c - l).toNat) hu hz (hlen w) (by show _ = min _ _; omega) (hcells w (fun _ _ => rfl)) hst; rw [← hv] at hrun; exact ⟨_, _, hrun' _ _ hrun, Goes.put F1 o.dst (.pure _ _ (.val _)) hk, hsz, hfr⟩
     ·exact hx.elim
  ·exact hx.elim
 ·exact hx.elim

theorem Znb (F : FitsAt X h ρ st a w) (o : Oper) {t : TypeId} {x : Operand} {id : Nat} {l hh c : Int} (heq : o.op = .call { callee := .builtin .clear, args := ⟨[x]⟩, argTypes := ⟨[t]⟩ })
  (r : Rep h ρ (a.eval x) (.osv id l hh c)) (K : St → Prop) (hx : Zt0 P o t id l hh st K) :
  ∃ v w', (execOp a.eval o).run P w = .ok (.value v) w' ∧ Goes X K (a.put o.dst v) w' ∧ w.heap.size ≤ w'.heap.size ∧ Frm st ρ id w w' := by
 obtain ⟨p, hv, h0, h1, h2, hc, hp⟩ := r.osv_inv; have hrun' : ∀ v w', (Builtin.clear_ #[t] o.type #[a.eval x]).run P w = .ok v w' → (execOp a.eval o).run P w = .ok (.value v) w' := fun v w' e => by simp [execOp, heq, resolve, invoke, builtin, e]
 unfold Zt0 at hx
 split at hx
 ·rename_i e sz rows hu ho
  split at hx
  ·rename_i z hz
   cases hb : (Nat.beq (lenN z) sz && idOK id) with
   | false => simp only [hb, cond_false] at hx
   | true =>
    simp only [hb, cond_true] at hx; simp only [Bool.and_eq_true] at hb; obtain ⟨hb1, hb2⟩ := hb; have hzl := Nat.eq_of_beq_eq_true hb1; rw [Zbi] at hzl; subst hzl; obtain ⟨g1, hk⟩ := hx; obtain ⟨zv, hzv, hzc, _, hzr⟩ := Zdd (h := h) hz; have hrl : (rrep (isub hh l) z).length = (hh - l).toNat := (by simp [rrep, isub]); by_cases hn0 : hh = l
    ·have e0 : rput rows l (rrep (isub hh l) z) = rows := (by subst hn0; simp [rput, rrep, isub]); rw [e0] at hk; refine ⟨.tuple #[], w, hrun' _ _ ?_, Goes.put (F.rowsSame ho) o.dst (.pure _ _ (.unk _)) hk, Nat.le_refl _, fun _ _ _ => rfl⟩; rw [hv, show (hh - l).toNat = 0 by omega]
     cases p <;> simp [Builtin.clear_, run_underlying hu]
    ·have hn : 0 < (hh - l).toNat := (by omega); obtain ⟨hnn, own, hcc⟩ := Zh8 F ho hc (by omega); have hpos := own.pos; have hsz0 : (Builtin.zeroCells zv.cells (hh - l).toNat).size = (hh - l).toNat * z.length := by simp [Builtin.zeroCells, hzc]
     have hcell : ∀ i j, i < (hh - l).toNat → j < z.length → (Builtin.zeroCells zv.cells (hh - l).toNat)[i * z.length + j]? = zv.cells[j]? := fun i j hi hj => by
      have := Zf6 (z := zv.cells) hzc hi hj
      simpa [Builtin.zeroCells, hzc] using this
     have hf : Flat h z.length (rrep (isub hh l) z) (Builtin.zeroCells zv.cells (hh - l).toNat).toList := by
      have hrow : ∀ (i : Nat) r, (rrep (isub hh l) z)[i]? = some r → r = z ∧ i < (hh - l).toNat := fun i r hi => by have hlt := (List.getElem?_eq_some_iff.1 hi).1; rw [hrl] at hlt; have hm := List.mem_of_getElem? hi; simp only [rrep] at hm; exact ⟨List.eq_of_mem_replicate hm, hlt⟩
      refine ⟨by rw [hrl]; simpa using hsz0, fun i r hi => by rw [(hrow i r hi).1], fun i r j c' hi hj => ?_, fun v hv => ?_⟩
      ·obtain ⟨rfl, hlt⟩ := hrow i r hi; have hjl := (List.getElem?_eq_some_iff.1 hj).1; have hj2 : j < zv.cells.size := (by omega); refine ⟨zv.cells[j], ?_, (hzr j _ c' (Array.getElem?_eq_getElem hj2) hj).1⟩; rw [Array.getElem?_toList, hcell i j hlt hjl, Array.getElem?_eq_getElem hj2]
      ·obtain ⟨k, e⟩ := List.mem_iff_getElem?.1 hv; have hk := (List.getElem?_eq_some_iff.1 e).1; rw [Array.length_toList, hsz0] at hk; obtain ⟨_, q1, q2, q3⟩ := Zkf hk; rw [Array.getElem?_toList, q3, hcell _ _ q1 q2] at e; exact (hzr _ v _ e (List.getElem?_eq_getElem q2)).2
     obtain ⟨w', ρ', hst, F1, hsz, hfr⟩ := putV (P := P) F ho hb2 h0 h2 hc hp hf g1 (by rw [hrl]; omega); rw [hp (by omega)] at hst hv; refine ⟨.tuple #[], w', hrun' _ _ ?_, Goes.put F1 o.dst (.pure _ _ (.unk _)) hk, hsz, hfr⟩; rw [hv]
     obtain ⟨m, hm⟩ : ∃ m, (hh - l).toNat = m + 1 := ⟨(hh - l).toNat - 1, by omega⟩
     rw [hm] at hst ⊢; simp at hst; simp [Builtin.clear_, run_underlying hu, hzv, hst]
  ·exact hx.elim
 ·exact hx.elim

theorem Zv0 {d : Nat} (h : Nat.blt d 8191 = true) (k : Nat) (hk : k < 128) : idOK (128 * d + k) = true := by
 have h1 : d + 1 ≤ 8191 := Nat.le_of_ble_eq_true h; have : Nat.blt (128 * d + k) 1048576 = true := Nat.ble_eq_true_of_le (by omega); simp [idOK, this]

theorem Zr4 {x : Operand} {id : Nat} (hx : st.val x = .osl id) (nid sz : Nat) (rows : List (List SV)) (c : Int) : (st.opn id nid sz rows c).val x = .osv nid 0 (rlen rows) c := by
 cases x with
 | tmp t =>
  simp only [St.val, ev] at hx ⊢; simp only [St.opn]; rw [Zco] at hx ⊢; rw [hmapL_getElem?]
  cases hs : st.tmps[t]? with
  | none => rw [hs] at hx; simp [ungd] at hx
  | some s =>
   rw [hs] at hx; simp only [Option.getD_some] at hx
   have : s = .osl id := by
    cases s <;> simp [ungd] at hx
    exact congrArg SV.osl hx
   subst this; simp [hmap, opnG, ungd]
 | const v =>
  exfalso
  revert hx
  unfold St.val ev
  split
  ·rename_i e; cases e
  all_goals (try simp [ungd])
  all_goals (rename_i e; cases e)
 | func f => simp [St.val, ev, ungd] at hx
 | global g =>
  exfalso; have hx' : ungd [] (Zfn g Zbz) = .osl id := hx; rw [Zo7] at hx'
  rcases Zcl g Zbz with e | ⟨cs, _, e⟩ <;> rw [e] at hx' <;> cases hx'

theorem Zip {P : Program} (w : World) (tS : TypeId) (ts : Array TypeId) (e : TypeId) (ht : P.underlying tS = some (.slice e)) (size : Nat) (hz : ∀ w, (Go.sizeOf e).run P w = .ok size w)
  (a b : Addr) (la ca lb cb : Nat) (hne : a.block ≠ b.block) (tA tB : TypeId) (kA kB : Nat)
  (hsa : w.shape? a.block = some (tA, kA + 1)) (hsb : w.shape? b.block = some (tB, kB))
  (hfb : w.frozen? b = false) (hfe : w.frozen? { block := b.block, off := kB } = false) :
  (Extern.SlicesOverlaps.overlaps #[tS, tS] ts #[.slice (some a) la ca, .slice (some b) lb cb]).run P w = .ok (.bool false) w := by
 have hnb : (a.block != b.block) = true := (by simpa using hne); have hnb' : (a.block == b.block) = false := by simpa using hne
 change Sem.run P (α := Value) (do
  let some t := (#[tS, tS] : Array TypeId)[0]? | stuck "slices.overlaps: no parameter types"
  let .slice elem ← underlying t | stuck "slices.overlaps: slice type expected"
  let size ← sizeOf elem
  match (some a : Option Addr), (some b : Option Addr) with
  | some a, some b =>
   if la = 0 ∨ lb = 0 ∨ size = 0 then pure (Value.bool false)
   else if a.block != b.block && (← frozen a) && (← frozen b) then unsupported .addressObserved
   else do
    if a.block != b.block then do
     noView a; noView b
     if ← mayBeOne a b then return Value.bool ((← choose (.extern "sameAddr.stringBytes" 2)) == 1)
    pure (Value.bool (a.block == b.block && a.off < b.off + lb * size && b.off < a.off + la * size))
  | _, _ => pure (Value.bool false)) w = _
 by_cases h0 : la = 0 ∨ lb = 0 ∨ size = 0
 ·simp [run_underlying ht, hz, h0]
 ·cases hfa : w.frozen? a with
  | false => cases hfx : w.frozen? { block := a.block, off := kA + 1 } <;> simp [run_underlying ht, hz, h0, hnb, hnb', frozen, noView, viewAt, mayBeOne, stringish, shape, Sem.run, hsa, hsb, hfa, hfb, hfe, hfx]
  | true => simp [run_underlying ht, hz, h0, hnb, hnb', frozen, noView, viewAt, mayBeOne, stringish, shape, Sem.run, hsa, hsb, hfa, hfb, hfe]

theorem Zgw {P : Program} (w : World) (tS : TypeId) (ts : Array TypeId) (e : TypeId) (ht : P.underlying tS = some (.slice e)) (size : Nat) (hz : ∀ w, (Go.sizeOf e).run P w = .ok size w)
  (pa pb : Option Addr) (la ca lb cb : Nat) (h0 : la = 0 ∨ lb = 0 ∨ size = 0) :
  (Extern.SlicesOverlaps.overlaps #[tS, tS] ts #[.slice pa la ca, .slice pb lb cb]).run P w = .ok (.bool false) w := by
 change Sem.run P (α := Value) (do
  let some t := (#[tS, tS] : Array TypeId)[0]? | stuck "slices.overlaps: no parameter types"
  let .slice elem ← underlying t | stuck "slices.overlaps: slice type expected"
  let size ← sizeOf elem
  match pa, pb with
  | some a, some b =>
   if la = 0 ∨ lb = 0 ∨ size = 0 then pure (Value.bool false)
   else if a.block != b.block && (← frozen a) && (← frozen b) then unsupported .addressObserved
   else do
    if a.block != b.block then do
     noView a; noView b
     if ← mayBeOne a b then return Value.bool ((← choose (.extern "sameAddr.stringBytes" 2)) == 1)
    pure (Value.bool (a.block == b.block && a.off < b.off + lb * size && b.off < a.off + la * size))
  | _, _ => pure (Value.bool false)) w = _
 cases pa with
 | none => simp [run_underlying ht, hz]
 | some pa => cases pb with
  | none => simp [run_underlying ht, hz]
  | some pb => simp [run_underlying ht, hz, h0]

theorem Zq8 (F : FitsAt X h ρ st a w) (o : Oper) {f : FuncId} {x y : Operand} {ats : Array TypeId} {id : Nat} {l hh c : Int} (heq : o.op = .call { callee := .value (.func f), args := ⟨[x, y]⟩, argTypes := ats })
  (r : Rep h ρ (a.eval y) (.osv id l hh c)) (K : St → Prop) (hx : ovlV P o f (st.val x) id st K) :
  ∃ v, (execOp a.eval o).run P w = .ok (.value v) w ∧ Goes X K (a.put o.dst v) w := by
 have hrx := F.val x; unfold ovlV at hx
 split at hx
 ·rename_i sx rx tok sz rows fn hxs ho hf; rw [hxs] at hrx
  split at hx
  ·rename_i t t' hps hbody
   split at hx
   ·rename_i e hu
    split at hx
    ·rename_i z hz
     cases hb : (Nat.beq z sz && Nat.ble 2 z) with
     | false => simp only [hb, cond_false] at hx
     | true =>
      simp only [hb, cond_true] at hx; simp only [Bool.and_eq_true] at hb; obtain ⟨⟨ts, hov⟩, hk⟩ := hx; have := Nat.eq_of_beq_eq_true hb.1; subst this; have hz2 : 2 ≤ z := Nat.le_of_ble_eq_true hb.2
      have hrun : (Extern.SlicesOverlaps.overlaps #[t, t] ts #[a.eval x, a.eval y]).run P w = .ok (.bool false) w := by
       obtain ⟨p, hv, h0, h1, h2, hc, hp⟩ := r.osv_inv; obtain ⟨px, cx, hvx⟩ := hrx.slice_inv; have hpx := hrx.slice_pure; rw [hvx] at hpx; rw [hv, hvx]; have short : ∀ (pa pb : Option Addr) la ca lb cb, la = 0 ∨ lb = 0 → (Extern.SlicesOverlaps.overlaps #[t, t] ts #[.slice pa la ca, .slice pb lb cb]).run P w = .ok (.bool false) w := fun pa pb la ca lb cb h0 => by have h0' : la = 0 ∨ lb = 0 ∨ z = 0 := h0.elim .inl (fun e => .inr (.inl e)); exact Zgw w t ts e hu z (fun w => run_sizeOf' w hz) pa pb la ca lb cb h0'
       by_cases e0 : rx.length = 0 ∨ (hh - l).toNat = 0
       ·exact short _ _ _ _ _ _ e0
       ·obtain ⟨hnn, own, hcc⟩ := Zh8 F ho hc (by omega); have hpp := hp (by omega); subst hpp; obtain ⟨cs, tc, fz, hcb, hs, hff, hvv⟩ := own.hblk; have hfz := (own.hfz cs tc fz hcb).resolve_right (fun q => by omega); subst hfz; have hr0 : 0 < rx.length := (by omega); generalize hvs : Value.slice px rx.length cx = vv at hpx
        cases hpx with
        | empty => cases hvs; simp at hr0
        | slice b off cap _ _ _ vs hpos hzr hhh hrr hone ht h1' hle =>
         cases hvs
         have hl0 : 0 < (rx[0]'hr0).length := (by rw [hzr 0 _ (List.getElem?_eq_getElem hr0)]; exact hpos); have hcell := hhh 0 _ 0 _ (List.getElem?_eq_getElem hr0) (List.getElem?_eq_getElem hl0); have hbne : b ≠ (ρ id).blk := fun e => by subst e; rw [own.hh] at hcell; cases hcell
         have hw := F.sub _ _ _ hcell
         have hsh : ∃ tA kA, w.shape? b = some (tA, kA + 1) := by
          unfold World.cell? at hw; simp only [] at hw
          split at hw
          ·rename_i cA tA fA hA
           have hlt : off + 0 * sx + 0 < cA.size := by
            rcases Nat.lt_or_ge (off + 0 * sx + 0) cA.size with h' | h'
            ·exact h'
            ·rw [Array.getElem?_eq_none h'] at hw; cases hw
           exact ⟨tA, cA.size - 1, by simp [World.shape?, hA]; omega⟩
          ·cases hw
         obtain ⟨tA, kA, hsa⟩ := hsh; exact Zip w t ts e hu z (fun w => run_sizeOf' w hz) ⟨b, off, none⟩ ⟨(ρ id).blk, _, none⟩ _ _ _ _ hbne tA tc kA cs.size hsa (by simp [World.shape?, hcb]) (by simp [World.frozen?, hcb]) (by simp [World.frozen?, hcb])
      have hcall := hov (a.eval x) (a.eval y) w; rw [hrun] at hcall; refine ⟨.bool false, ?_, Goes.put F o.dst (.pure _ _ (.val _)) hk⟩; have hex : (execOp a.eval o).run P w = (callFunc f #[a.eval x, a.eval y]).run P w := (by simp [execOp, heq, resolve, Act.eval, Deferred.ofValue, invoke]); rw [hex, hcall]; rfl
    ·exact hx.elim
   ·exact hx.elim
  ·exact hx.elim
 ·exact hx.elim

theorem Znc : ∀ (cs : List SV) (i : Nat), (rows1 cs)[i]? = (cs[i]?).map fun c => [c]
 | [], i => by simp [rows1]
 | c :: cs, 0 => by simp [rows1]
 | c :: cs, i + 1 => by simp [rows1, Znc cs i]

theorem Znd : ∀ (cs : List SV), (rows1 cs).length = cs.length
 | [] => rfl
 | c :: cs => by simp [rows1, Znd cs]

theorem Zk3 (F : FitsAt X h ρ st a w) (o : Oper) {t : TypeId} {x : Operand} {lo hi mx : Option Operand} (heq : o.op = .slice t x lo hi mx) (K : St → Prop) (hx : arrV P o t x lo hi mx st K) :
  ∃ v, (∀ w', (execOp a.eval o).run P w' = .ok (.value v) w') ∧ Goes X K (a.put o.dst v) w := by
 unfold arrV at hx
 split at hx
 ·rename_i m e off cs hu hxs; have h1 := F.val x; rw [hxs] at h1
  split at hx
  ·rename_i hz
   cases hb : (Nat.ble (off + m) (lenN cs) && Nat.blt 0 m && boxL (takeN m (dropN off cs))) with
   | false => simp only [hb, cond_false] at hx
   | true =>
    simp only [hb, cond_true] at hx; simp only [Bool.and_eq_true] at hb; obtain ⟨⟨b1, b2⟩, b3⟩ := hb; have hle : off + m ≤ cs.length := by have := Nat.le_of_ble_eq_true b1; rwa [Zbi] at this
    have hpos : 0 < m := (by simpa [Nat.blt_eq] using b2); generalize hv : a.eval x = v at h1; have hlen : (rows1 (takeN m (dropN off cs))).length = m := by rw [Znd, Ze2, Ze3]; simp; omega
    have hget : ∀ (i : Nat) r, (rows1 (takeN m (dropN off cs)))[i]? = some r → ∃ c, r = [c] ∧ cs[off + i]? = some c ∧ Zbv c = true := by
     intro i r hr; rw [Znc] at hr
     cases hc : (takeN m (dropN off cs))[i]? with
     | none => simp [hc] at hr
     | some c =>
      simp [hc] at hr; refine ⟨c, hr.symm, ?_, Zi2 b3 i c hc⟩; rw [Ze2, Ze3, List.getElem?_take] at hc
      split at hc
      ·rw [List.getElem?_drop] at hc; exact hc
      ·cases hc
    cases h1 with
    | pure _ _ hp =>
     cases hp with
     | ref b base _ _ vs hh hr =>
      have key := PRep.slice (h := h) b (base + off) m 1 (rows1 (takeN m (dropN off cs))) 1 (fun i j => vs (off + i + j)) (by omega)
       (fun i r hr => by obtain ⟨c, rfl, _⟩ := hget i r hr; rfl)
       (fun i r j c hr hj => by
        obtain ⟨c0, rfl, e2, _⟩ := hget i r hr
        cases j with
        | zero => simp at hj; subst hj; have := hh _ _ e2; simpa [Nat.add_assoc] using this
        | succ j => simp at hj)
       (fun i r j c hr' hj => by
        obtain ⟨c0, rfl, e2, _⟩ := hget i r hr'
        cases j with
        | zero => simp at hj; subst hj; exact hr _ _ e2
        | succ j => simp at hj)
       (fun i r j c hr' hj => by
        obtain ⟨c0, rfl, e2, e3⟩ := hget i r hr'
        cases j with
        | zero => simp at hj; subst hj; exact Zgo (ρ := ρ) e3 (.pure _ _ (hr _ _ e2))
        | succ j => simp at hj)
       (by omega) (fun _ => hlen.symm) (by omega)
      rw [hlen] at key; refine ⟨_, fun w' => ?_, Goes.put F o.dst (.pure _ _ key) hx⟩; simp [execOp, heq, hv, Instr.sliceAt, run_underlying hu, Instr.sureAddr, Instr.sliceBounds, run_sizeOf' w' hz, Zb0]
  ·exact hx.elim
 ·exact hx.elim

theorem Zr5 (F : FitsAt X h ρ st a w) (o : Oper) (K : St → Prop) (hl : loud P o.op = false) {C : (St → Prop) → Prop} (hv : viewC P o st = some C) (hx : C K) :
  ∃ v, (∀ w', (execOp a.eval o).run P w' = .ok (.value v) w') ∧ Goes X K (a.put o.dst v) w := by
 unfold viewC at hv
 split at hv
 ·rename_i t x lo hi mx heq
  split at hv
  ·rename_i id hxs
   cases hm : vmode st with
   | false => simp only [hm, cond_false] at hv; cases hv
   | true =>
    simp only [hm, cond_true] at hv
    split at hv
    ·rename_i sz rows d ho hd
     cases hdl : Nat.blt d 8191 with
     | false => simp only [hdl, cond_false] at hv; cases hv
     | true =>
      simp only [hdl, cond_true] at hv
      cases hv
      have hid : idOK (128 * d + 65) = true := Zv0 hdl 65 (by omega); obtain ⟨c, hc, hcm, F1⟩ := F.opn ho hid; have hx := hx c hc hcm; refine Zh9 F1 o heq ?_ K hx; have := F1.val x; have e1 : (st.opn id (128 * d + 65) sz rows c).val x = .osv (128 * d + 65) 0 (rlen rows) c := Zr4 hxs _ _ _ _; rw [e1] at this; exact this
    ·cases hv
  ·rename_i id l hh c hxs
   cases hv
   have := F.val x; rw [hxs] at this; exact Zh9 F o heq this K hx
  ·rename_i id off hxs
   cases hm : amode st with
   | false => simp only [hm, cond_false] at hv; cases hv
   | true =>
    simp only [hm, cond_true] at hv
    split at hv
    ·rename_i st1 hs1
     cases hv
     obtain ⟨h1, hle1, F1⟩ := F.frzBoxes _ hs1; exact Zk3 F1 o heq K hx
    ·cases hv
  ·cases hv
   exact Zk3 F o heq K hx
  ·cases hv
 ·rename_i b x t heq; have hvx := F.val x
  split at hv
  ·rename_i id l hh c hxs; rw [hxs] at hvx
   split at hv
   ·rename_i e hu
    cases hv
    obtain ⟨p, hve, h0, h1, h2, hc, hp⟩ := hvx.osv_inv; refine ⟨.int .i64 (hh - l), fun w' => ?_, Goes.put F o.dst (.pure _ _ (.val _)) hx⟩; simp [execOp, heq, resolve, invoke, builtin, Builtin.len_, hve, run_underlying hu, goInt]; omega
   ·cases hv
  ·rename_i id l hh c hxs; rw [hxs] at hvx
   split at hv
   ·rename_i e hu
    cases hv
    obtain ⟨p, hve, h0, h1, h2, hc, hp⟩ := hvx.osv_inv; refine ⟨.int .i64 (c - l), fun w' => ?_, Goes.put F o.dst (.pure _ _ (.val _)) hx⟩; simp [execOp, heq, resolve, invoke, builtin, Builtin.cap_, hve, run_underlying hu, goInt]; omega
   ·cases hv
  ·rename_i id hxs
   cases hm : vmode st with
   | false => simp only [hm, cond_false] at hv; cases hv
   | true =>
    simp only [hm, cond_true] at hv
    split at hv
    ·rename_i e sz rows d hu ho hd
     cases hdl : Nat.blt d 8191 with
     | false => simp only [hdl, cond_false] at hv; cases hv
     | true =>
      simp only [hdl, cond_true] at hv
      cases hv
      obtain ⟨c, hc, hcm, F1⟩ := F.opn ho (Zv0 hdl 65 (by omega)); have hvx := F1.val x; rw [Zr4 hxs] at hvx; obtain ⟨p, hve, h0, h1, h2, _, hp⟩ := hvx.osv_inv; refine ⟨.int .i64 c, fun w' => ?_, Goes.put F1 o.dst (.pure _ _ (.val _)) (hx c hc hcm)⟩; simp [execOp, heq, resolve, invoke, builtin, Builtin.cap_, hve, run_underlying hu, goInt]; omega
    ·cases hv
  ·rw [heq] at hl; simp [loud] at hl
  ·cases hv
 ·rename_i b x y t1 t2 heq
  split at hv
  ·rw [heq] at hl; simp [loud] at hl
  ·rw [heq] at hl; simp [loud] at hl
  ·cases hv
 ·rename_i heq; rw [heq] at hl; simp [loud] at hl
 ·cases hv

theorem Zl2 {t1 t2 e ty : TypeId} {i : TypeInfo} {z : Value} (hu : P.underlying t1 = some (.slice e)) (hi : P.info? e = some i) (hzz : i.zero = some z) (hzc : z.cells.size = i.size) (hby : i.bytes ≤ 8192) (hpos : 0 < i.size) (hu2 : P.underlying t2 = some (.int .i64)) {m : Nat} {old : Array Value}
  {p : Option Addr} {n cap : Nat} (hno : ¬ n + m ≤ cap) (hmax : n + m ≤ 2147483648)
  (hold : (Builtin.firstCells i.size n (.slice p n cap)).run P w.drew = .ok old w.drew) :
  ∃ nc, n + m ≤ nc ∧ nc ≤ 9223372036854775807 ∧ (Builtin.append_ #[t1, t2] ty #[.slice p n cap, .int .i64 m]).run P w = .ok (.slice (some ⟨w.heap.size, 0, none⟩) (n + m) nc)
   (w.drew.alloc (.cells (old ++ Builtin.zeroCells z.cells m ++ Builtin.zeroCells z.cells (nc - (n + m))) e)) := by
 refine ⟨(n + m) + (w.tape w.drawn (.appendCap (n + m) cap e)) % (2 ^ 63 - (n + m)), by omega, by have := Nat.mod_lt (w.tape w.drawn (.appendCap (n + m) cap e)) (show 0 < 2 ^ 63 - (n + m) by omega); omega, ?_⟩; unfold Builtin.append_; have hw : IntKind.i64.wrap (m : Int) = m := Zhn (by omega) (by omega); have h0 : (m : Int) * i.bytes ≤ 17592186044416 := (by have : m * i.bytes ≤ 17592186044416 := Nat.le_trans (Nat.mul_le_mul (show m ≤ 2147483648 by omega) hby) (Nat.le_of_ble_eq_true rfl); have h2 : ((m * i.bytes : Nat) : Int) ≤ 17592186044416 := (by omega); rwa [Int.natCast_mul] at h2); have e2 : Builtin.nextslicecap (n + m) cap * i.bytes ≤ (2 * (n + m) + 200) * 8192 := Nat.mul_le_mul (Zfq (need := n + m) (cap := cap) (by omega)) hby; have h2' : ¬ (281474976710656 < Builtin.nextslicecap (n + m) cap * i.bytes) := (by omega); have h0' : ¬ (281474976710656 < (m : Int) * i.bytes) := (by omega); have h1' : ¬ (9223372036854775807 < (n : Int) + (m : Int)) := (by omega); have hneg : ¬ ((m : Int) < 0) := (by omega); have hti : ∀ w, (typeInfo e).run P w = .ok i w := fun w => run_typeInfo' w hi; have hzv : ∀ w, (zeroValue e).run P w = .ok z w := fun w => by simp [zeroValue, hti, hzz]
 have hz0 : m * i.size = 0 → Builtin.zeroCells z.cells m = #[] := fun e => by have hm : m = 0 := (by rcases Nat.mul_eq_zero.1 e with h | h; exact h; omega); subst hm; apply Array.eq_empty_of_size_eq_zero; simp [Builtin.zeroCells]
 simp only [sizeOf]; simp [hno, run_underlying hu, run_underlying hu2, hti, asInt, asIntOf, hw, h0', h1', h2', Question.forced, Question.cut, hold, hzv, newRow]; by_cases hm0 : m * i.size = 0
 ·simp only [hm0, if_true, hz0 hm0]; rw [if_neg hneg]; simp
 ·simp only [hm0, if_false]; rw [if_neg hneg]

theorem Zui (F : FitsAt X h ρ st a w) {vy : Value} {id sz : Nat} {l hh c : Int} {rows : List (List SV)} (hr : Rep h ρ vy (.osv id l hh c)) (ho : oget st.objs id = some (.own sz rows)) :
  ∃ old : Array Value, old.size = (hh - l).toNat * sz ∧ (∀ w' : World, (∀ b, b < w.heap.size → w'.heap[b]? = w.heap[b]?) → (Builtin.firstCells sz (hh - l).toNat vy).run P w' = .ok old w') ∧
   ∀ (i : Nat) r (j : Nat) c', i < (hh - l).toNat → rows[l.toNat + i]? = some r → r[j]? = some c' → r.length = sz ∧ ∃ v, old[i * sz + j]? = some v ∧ PRep h v c' ∧ v.oneCell' = true := by
 obtain ⟨p, rfl, h0, h1, h2, hc, hp⟩ := hr.osv_inv; by_cases hz : hh = l
 ·refine ⟨#[], by simp [hz], fun w' _ => ?_, fun i r j c' hi => by omega⟩; rw [show (hh - l).toNat = 0 by omega]
  cases p with
  | none => simp [Builtin.firstCells]
  | some ad => simp [Builtin.firstCells, loadCells, loadCellsFrom]
 ·obtain ⟨hnn, o, hcc⟩ := Zh8 F ho hc (by omega); obtain ⟨cs, t, fz, hcb, hs, hf, hv⟩ := o.hblk; rw [hp (by omega)]; have hmul : l.toNat * sz + (hh - l).toNat * sz ≤ (ρ id).cap * sz := by rw [← Nat.add_mul]; exact Nat.mul_le_mul_right sz (by omega)
  have hblt : (ρ id).blk < w.heap.size := by
   rcases Nat.lt_or_ge (ρ id).blk w.heap.size with h' | h'
   ·exact h'
   ·rw [Array.getElem?_eq_none h'] at hcb; cases hcb
  refine ⟨((List.range ((hh - l).toNat * sz)).map fun k => (w.cell? ⟨(ρ id).blk, (ρ id).off + l.toNat * sz + k, none⟩).getD undef).toArray, by simp, fun w' hw => ?_, fun i r j c' hi hri hj => ?_⟩
  ·simp only [Builtin.firstCells, o.hsz]
   have := run_loadCells (P := P) w' ⟨(ρ id).blk, (ρ id).off + l.toNat * sz, none⟩ ((hh - l).toNat * sz) (fun k => (w.cell? ⟨(ρ id).blk, (ρ id).off + l.toNat * sz + k, none⟩).getD undef) (fun k hkl => by
    rw [Zb0]; have hlt : (ρ id).off + l.toNat * sz + k < cs.size := (by omega); have e1 : w.cell? ⟨(ρ id).blk, (ρ id).off + l.toNat * sz + k, none⟩ = some cs[(ρ id).off + l.toNat * sz + k] := by simp [World.cell?, hcb, hlt]
    rw [Zfm (hw _ hblt) e1, e1]; rfl)
   rw [this]
  ·have hrl := o.hrow _ r hri; have hjl : j < sz := (by have := (List.getElem?_eq_some_iff.1 hj).1; omega); obtain ⟨v, e1, e2, e3⟩ := hv _ r j c' hri hj; refine ⟨hrl, v, ?_, e2, e3⟩; have hlt := Zkb hi hjl; rw [show (ρ id).off + (l.toNat + i) * sz + j = (ρ id).off + l.toNat * sz + (i * sz + j) by rw [Nat.add_mul]; omega] at e1; simp only [List.getElem?_toArray, List.getElem?_map, List.getElem?_range hlt, Option.map_some]; simp [World.cell?, hcb, e1]

theorem Zq9 (F : FitsAt X h ρ st a w) (o : Oper) {t1 t2 : TypeId} {x y : Operand} {n : Int} {id : Nat} {l hh c : Int} (heq : o.op = .call { callee := .builtin .append, args := ⟨[x, y]⟩, argTypes := ⟨[t1, t2]⟩ })
  (hu2 : P.underlying t2 = some (.int .i64)) (hvy : a.eval y = .int .i64 n) (r : Rep h ρ (a.eval x) (.osv id l hh c)) (K : St → Prop) (hx : appZ P o t1 n id l hh c st K) :
  ∃ v w', (execOp a.eval o).run P w = .ok (.value v) w' ∧ Goes X K (a.put o.dst v) w' ∧ w.heap.size ≤ w'.heap.size ∧ Frm st ρ id w w' := by
 obtain ⟨p, hv, h0, h1, h2, hc, hp⟩ := r.osv_inv; unfold appZ at hx
 split at hx
 ·rename_i e d sz rows hu hd ho
  split at hx
  ·rename_i z zr hz hzr
   cases hb : (Zce P e && Nat.beq z sz && dstOK o.dst) with
   | false => simp only [hb, cond_false] at hx
   | true =>
    simp only [hb, cond_true] at hx; simp only [Bool.and_eq_true] at hb; obtain ⟨⟨hb1, hb3⟩, hb4⟩ := hb; have := Nat.eq_of_beq_eq_true hb3; subst this; obtain ⟨i, zv, hi, hby, hpos, hzz, hzc, hszT⟩ := Zcm hb1; have hzi : z = i.size := by rw [hszT] at hz; cases hz; rfl
    subst hzi; obtain ⟨⟨⟨n0, n1⟩, n2, n3⟩, k1, k2⟩ := hx; simp only [lsum, isub, most] at n1 n2 n3 k1 k2
    obtain ⟨m, rfl⟩ : ∃ m : Nat, n = m := ⟨n.toNat, by omega⟩
    obtain ⟨old, hol, hload, hcell⟩ := Zui (P := P) F r ho; rw [hd] at hb4; have hid := Zpp hb4; obtain ⟨nc, hnc, hnm, hrun⟩ := Zl2 (P := P) (ty := o.type) (t2 := t2) (m := m) (p := p) (n := (hh - l).toNat) (cap := (c - l).toNat) (old := old) (w := w) hu hi hzz hzc hby hpos hu2 (by omega) (by omega) (by rw [← hv]; exact hload w.drew (fun _ _ => rfl)); rw [← hv, ← hvy] at hrun; obtain ⟨zv', hzv', hzl', hzi', hzr'⟩ := Zdd (h := h) hzr; have hzz' : zv' = zv := by have := hzi' i hi; rw [hzz] at this; cases this; rfl
    subst hzz'; have hzl : zr.length = i.size := (by omega); have hrun' : ∀ v w', (Builtin.append_ #[t1, t2] o.type #[a.eval x, a.eval y]).run P w = .ok v w' → (execOp a.eval o).run P w = .ok (.value v) w' := fun v w' e => by simp [execOp, heq, resolve, invoke, builtin, e]
    refine ⟨_, _, hrun' _ _ hrun, ?_, (Zal w _).size, fun b hb _ => (Zal w _).block b hb (fun e => e)⟩; have hncI : hh - l + (m : Int) ≤ (nc : Int) := by omega
    have fin : ∀ rows', rows'.length ≤ (hh - l).toNat + m → (∀ (k : Nat) r, rows'[k]? = some r → r.length = i.size) → (∀ (k : Nat) r (j : Nat) c', rows'[k]? = some r → r[j]? = some c' → ∃ v, (old ++ Builtin.zeroCells zv'.cells m ++ Builtin.zeroCells zv'.cells (nc - ((hh - l).toNat + m)))[k * i.size + j]? = some v ∧ PRep h v c' ∧ v.oneCell' = true) →
      K ((st.bind (128 * d + 64) (.own i.size rows')).put o.dst (.osv (128 * d + 64) 0 (hh - l + m) nc)) →
      Goes X K (a.put o.dst (.slice (some ⟨w.heap.size, 0, none⟩) ((hh - l).toNat + m) nc)) (w.drew.alloc (.cells (old ++ Builtin.zeroCells zv'.cells m ++ Builtin.zeroCells zv'.cells (nc - ((hh - l).toNat + m))) e)) := by
     intro rows' hl' hrow' hcell' hk
     have hown : OwnOK h (w.drew.alloc (.cells (old ++ Builtin.zeroCells zv'.cells m ++ Builtin.zeroCells zv'.cells (nc - ((hh - l).toNat + m))) e)) ⟨w.heap.size, 0, rows'.length, nc, i.size, false⟩ i.size rows' :=
      Zny (fz := (0, 0)) (e := e) hpos (by omega) hnm hrow' (by show (w.heap.push _)[_]? = _; simp) (by
       simp only [Array.size_append, hol, Builtin.zeroCells, Array.size_map, Array.size_range, hzc]; rw [← Nat.add_mul, ← Nat.add_mul]
       exact Nat.mul_le_mul_right _ (by omega)) (fun o _ => by simp) (fun o => Zcy F.sub o _ (Nat.le_refl _)) (.inl rfl) hcell'
     have F1 := F.newOwn (128 * d + 64) hid (.own i.size rows') ⟨w.heap.size, 0, rows'.length, nc, i.size, false⟩ (Zal w _) (by simp) (fun _ => Nat.le_refl _) (.inr ⟨by rw [Zad], by rw [Zad]; exact hown⟩); have hR := Rep.osv (h := h) (ρ := upd ρ (128 * d + 64) ⟨w.heap.size, 0, rows'.length, nc, i.size, false⟩) (128 * d + 64) 0 (hh - l + m) nc (some ⟨w.heap.size, 0, none⟩) (by omega) (by omega) hncI (by rw [Zad]; simp) (fun _ => by rw [Zad]; simp); rw [show (hh - l + (m : Int) - 0).toNat = (hh - l).toNat + m by omega, show ((nc : Int) - 0).toNat = nc by omega] at hR; exact Goes.put F1 o.dst hR hk
    by_cases hle : hh ≤ rlen rows
    ·have k1 := k1 hle nc hncI (by omega); simp only [rlen, Int.ofNat_eq_natCast] at hle; have hlr : (rsub rows l hh).length = (hh - l).toNat := by simp [rsub]; omega
     have hget : ∀ (k : Nat) r, (rapp (rsub rows l hh) (rrep m zr))[k]? = some r → (k < (hh - l).toNat ∧ rows[l.toNat + k]? = some r) ∨ ((hh - l).toNat ≤ k ∧ k < (hh - l).toNat + m ∧ r = zr) := by
      intro k r hk; simp only [rapp, List.getElem?_append, hlr] at hk
      split at hk
      ·rename_i hlt; simp only [rsub, List.getElem?_drop, List.getElem?_take] at hk
       split at hk
       ·exact .inl ⟨hlt, hk⟩
       ·cases hk
      ·rename_i hge; have h1 := (List.getElem?_eq_some_iff.1 hk).1; have hm := List.mem_of_getElem? hk; simp only [rrep] at hm h1; rw [List.length_replicate] at h1; refine .inr ⟨by omega, ?_, List.eq_of_mem_replicate hm⟩; have : (m : Int).toNat = m := (by omega); omega
     refine fin _ (by simp [rapp, hlr, rrep]) (fun k r hk => ?_) (fun k r j c' hk hj => ?_) k1
     ·rcases hget k r hk with ⟨hlt, hr⟩ | ⟨_, _, rfl⟩
      ·rcases F.obj id _ ho with ⟨_, rfl⟩ | ⟨_, ow⟩
       ·simp at hr
       ·exact ow.hrow _ r hr
      ·exact hzl
     ·rcases hget k r hk with ⟨hlt, hr⟩ | ⟨hge, hlt, rfl⟩
      ·obtain ⟨hrl, v, e1, e2, e3⟩ := hcell k r j c' hlt hr hj; refine ⟨v, ?_, e2, e3⟩; rw [Array.append_assoc, Array.getElem?_append_left (Array.getElem?_eq_some_iff.1 e1).1]; exact e1
      ·have hj' := (List.getElem?_eq_some_iff.1 hj).1; have hj2 : j < zv'.cells.size := (by omega); have hzc0 := Zf6 (z := zv'.cells) (n := m) (i := k - (hh - l).toNat) (j := j) hzc (by omega) (by omega); obtain ⟨q1, q2⟩ := hzr' j _ c' (Array.getElem?_eq_getElem hj2) hj; refine ⟨zv'.cells[j], ?_, q1, q2⟩; have hmul : (hh - l).toNat * i.size ≤ k * i.size := Nat.mul_le_mul_right _ hge; have hlt2 : (k - (hh - l).toNat) * i.size + j < m * i.size := Zkb (by omega) (by omega); rw [Nat.sub_mul] at hzc0 hlt2; rw [Array.getElem?_append_left (by simp [hol, Builtin.zeroCells, hzc]; omega), Array.getElem?_append_right (by omega), hol]; rw [show k * i.size + j - (hh - l).toNat * i.size = k * i.size - (hh - l).toNat * i.size + j by omega]; rw [← Array.getElem?_eq_getElem hj2, ← hzc0]; simp [Builtin.zeroCells, hzc]
    ·have k2 := k2 (by omega) nc hncI (by omega); simp only [rlen, Int.ofNat_eq_natCast] at hle k2
     have hget : ∀ (k : Nat) r, (rsub rows l (rows.length : Int))[k]? = some r → k < (hh - l).toNat ∧ rows[l.toNat + k]? = some r := by
      intro k r hk; simp only [rsub, List.getElem?_drop, List.getElem?_take] at hk
      split at hk
      ·rename_i hlt; have := (List.getElem?_eq_some_iff.1 hk).1; exact ⟨by omega, hk⟩
      ·cases hk
     refine fin _ (by simp [rsub]; omega) (fun k r hk => ?_) (fun k r j c' hk hj => ?_) k2
     ·rcases F.obj id _ ho with ⟨_, rfl⟩ | ⟨_, ow⟩
      ·have := (hget k r hk).2; simp at this
      ·exact ow.hrow _ r (hget k r hk).2
     ·obtain ⟨hrl, v, e1, e2, e3⟩ := hcell k r j c' (hget k r hk).1 (hget k r hk).2 hj; refine ⟨v, ?_, e2, e3⟩; rw [Array.append_assoc, Array.getElem?_append_left (Array.getElem?_eq_some_iff.1 e1).1]; exact e1
  ·exact hx.elim
 ·exact hx.elim

theorem Zr6 (F : FitsAt X h ρ st a w) (o : Oper) (K : St → Prop) (hl : loud P o.op = true) {C : (St → Prop) → Prop} (hv : viewC P o st = some C) (hx : C K) :
  ∃ v w', (execOp a.eval o).run P w = .ok (.value v) w' ∧ Goes X K (a.put o.dst v) w' ∧ w.heap.size ≤ w'.heap.size ∧ ((∃ id, (∀ (Sg : FuncId → Sig) (Sv : TypeId → Sig), touch Sg Sv st o = some [id]) ∧ Frm st ρ id w w') ∨ w' = w) := by
 unfold viewC at hv
 split at hv
 ·rename_i t x lo hi mx heq; rw [heq] at hl; simp [loud] at hl
 ·rename_i b x t heq; have hvx := F.val x
  split at hv
  ·rw [heq] at hl; simp [loud] at hl
  ·rw [heq] at hl; simp [loud] at hl
  ·rw [heq] at hl; simp [loud] at hl
  ·rename_i id l hh c hxs; rw [hxs] at hvx
   cases hv
   obtain ⟨v, w', e1, e2, e3, e4⟩ := Znb F o heq hvx K hx; exact ⟨v, w', e1, e2, e3, .inl ⟨id, fun Sg Sv => by simp [touch, heq, hxs], e4⟩⟩
  ·cases hv
 ·rename_i b x y t1 t2 heq; have hvx := F.val x
  split at hv
  ·rename_i id l hh c hxs; rw [hxs] at hvx
   split at hv
   ·rename_i n hu2 hys
    cases hv
    have hvy := F.val y; rw [hys] at hvy; obtain ⟨v, w', e1, e2, e3, e4⟩ := Zq9 F o heq hu2 hvy.val_inv hvx K hx; exact ⟨v, w', e1, e2, e3, .inl ⟨id, fun Sg Sv => by simp [touch, heq, hxs], e4⟩⟩
   ·cases hv
    obtain ⟨v, w', e1, e2, e3, e4⟩ := Zq7 F o heq hvx K hx; exact ⟨v, w', e1, e2, e3, .inl ⟨id, fun Sg Sv => by simp [touch, heq, hxs], e4⟩⟩
  ·rename_i id l hh c hxs; rw [hxs] at hvx
   cases hv
   obtain ⟨v, w', e1, e2, e3, e4⟩ := Zn8 F o heq hvx K hx; exact ⟨v, w', e1, e2, e3, .inl ⟨id, fun Sg Sv => by simp [touch, heq, hxs], e4⟩⟩
  ·cases hv
 ·rename_i f x y ats heq; have hvy := F.val y
  split at hv
  ·rename_i id l hh c hys; rw [hys] at hvy
   cases hv
   obtain ⟨v, e1, e2⟩ := Zq8 F o heq hvy K hx; exact ⟨v, w, e1, e2, Nat.le_refl _, .inr rfl⟩
  ·cases hv
 ·cases hv

end

section
variable {X : Cx} {h : Hp} {ρ : Nat → Loc} {st : St} {a : Act} {w : World} {P : Program}

theorem Zwn {st : St} {id i : Nat} {o : Ob} (e : oget (st.frz id).objs i = some o) : ∃ o', oget st.objs i = some o' := by
 unfold St.frz at e
 split at e
 ·obtain ⟨o', e', _⟩ := Zaj e; exact ⟨o', (Zai e').2⟩
 ·exact ⟨o, e⟩

theorem Zf0 : ∀ (ids : List Nat) {st : St} {i : Nat} {o : Ob}, oget (St.frzAll ids st).objs i = some o → ∃ o', oget st.objs i = some o'
 | [], st, i, o, e => ⟨o, e⟩
 | id :: ids, st, i, o, e => by obtain ⟨o', e'⟩ := Zf0 ids e; exact Zwn e'

def Zc6 (Sg : FuncId → Sig) (Sv : TypeId → Sig) (st : St) (ρ : Nat → Loc) (o : Oper) (b : Nat) : Prop :=
 ∀ tids, touch Sg Sv st o = some tids → ∃ id ∈ tids, live st.objs ρ id ∧ (ρ id).blk = b

theorem Zbe {Sg : FuncId → Sig} {Sv : TypeId → Sig} {o : Oper} {b : Nat} (h : ¬ Zc6 Sg Sv st ρ o b) : ∃ tids, touch Sg Sv st o = some tids ∧ ∀ id ∈ tids, live st.objs ρ id → (ρ id).blk ≠ b := by
 unfold Zc6 at h
 cases e : touch Sg Sv st o with
 | none => exact absurd (fun tids e' => by rw [e] at e'; cases e') h
 | some tids => exact ⟨tids, rfl, fun id hm hl eb => h fun tids' e' => by rw [e] at e'; cases e'; exact ⟨id, hm, hl, eb⟩⟩

def After (X : Cx) (K : St → Prop) (o : Oper) (a : Act) (w : World) (T : Nat → Prop) (a' : Act) (w' : World) : Prop :=
 Goes X K a' w' ∧ (∃ u, a' = a.put o.dst u) ∧ w.heap.size ≤ w'.heap.size ∧ ∀ b, b < w.heap.size → ¬ T b → w'.heap[b]? = w.heap[b]?

theorem Zwo {id : Nat} (h : id < 1048576) : idOK id = true := by
 have : Nat.blt id 1048576 = true := Nat.ble_eq_true_of_le (by omega); simp [idOK, this]

theorem Zgx {d k : Nat} (h : dstOK (some d) = true) (hk : k < 128) : idOK (128 * d + k) = true := by
 simp only [dstOK] at h; have := Nat.le_of_ble_eq_true h; exact Zwo (by omega)

theorem Zne {kd : IntKind} {n : Int} {rows : List (List SV)} {K : List SV → Prop} : ∀ (m : Nat) (acc : List SV), copyN kd n rows K m acc → (acc.length : Int) ≤ n → n ≤ (acc.length : Int) + m →
  (∀ (j : Nat) c, acc[j]? = some c → (∃ x, c = .val (.int kd x)) ∧ rget rows (Int.ofNat j) = [c]) →
  ∃ acc', K acc' ∧ (acc'.length : Int) = n ∧ ∀ (j : Nat) c, acc'[j]? = some c → (∃ x, c = .val (.int kd x)) ∧ rget rows (Int.ofNat j) = [c]
 | 0, acc, hc, h1, h2, hg => ⟨acc, hc, by omega, hg⟩
 | m + 1, acc, hc, h1, h2, hg => by
  simp only [copyN, Zbi] at hc; by_cases he : n = Int.ofNat acc.length
  ·exact ⟨acc, hc.1 he, by rw [he]; rfl, hg⟩
  ·obtain ⟨x, hx, hrest⟩ := hc.2 (by simp only [Int.ofNat_eq_natCast] at he ⊢; omega); refine Zne m _ hrest (by simp only [Int.ofNat_eq_natCast] at he; simp; omega) (by simp; omega) (fun j c hj => ?_); rw [List.getElem?_append] at hj
   split at hj
   ·exact hg j c hj
   ·rename_i hlt; have hjl : j = acc.length := (by have := (List.getElem?_eq_some_iff.1 hj).1; simp at this; omega); subst hjl; simp at hj; subst hj; exact ⟨⟨x, rfl⟩, hx⟩

theorem Zuj (F : FitsAt X h ρ st a w) {t1 t2 e ty : TypeId} {id off m : Nat} {cs cs' acc : List SV} {vy : Value} {y : SV} {sz' : Nat} {ys : List (List SV)} (hu : P.underlying t1 = some (.slice e)) (hz : szT P e = some 1) (ho : oget st.objs id = some (.box cs))
  (hro : Zio st.objs y = some (sz', ys)) (hry : Rep h ρ vy y) {kd : IntKind} (hacc : ∀ (j : Nat) c, acc[j]? = some c → (∃ x, c = .val (.int kd x)) ∧ rget ys (Int.ofNat j) = [c]) (hal : acc.length = min ys.length m) (hsp : Zbs off acc cs = some cs') :
  ∃ w', (Builtin.copy_ #[t1, t2] ty #[.slice (some ⟨(ρ id).blk, off, none⟩) m m, vy]).run P w = .ok (goInt acc.length) w' ∧ FitsAt X h ρ { st with objs := oput st.objs id (.box cs') } a w' ∧
   w.heap.size ≤ w'.heap.size ∧ ∀ b, b ≠ (ρ id).blk → w'.heap[b]? = w.heap[b]? := by
 obtain ⟨hn0, ⟨cur, tc, hcur, hsz, hcell⟩, hno⟩ := F.obj id _ ho; obtain ⟨p, cap, rfl, hp⟩ := Zd3 F hry hro; obtain ⟨hle, rfl⟩ := Zck _ _ _ _ hsp; obtain ⟨i, hi, hi1⟩ := Zml hz
 let vals : List Value := acc.map fun c => match c with | .val v => v | _ => undef
 have hvl : vals.length = acc.length := by simp [vals]
 have hval : ∀ (j : Nat) v, vals[j]? = some v → ∃ x, v = .int kd x ∧ acc[j]? = some (.val (.int kd x)) := fun j v hv => by
  simp only [vals, List.getElem?_map] at hv
  cases hc : acc[j]? with
  | none => simp [hc] at hv
  | some c => obtain ⟨⟨x, rfl⟩, _⟩ := hacc j c hc; simp [hc] at hv; exact ⟨x, hv.symm, rfl⟩
 have hone : ∀ v ∈ vals, v.oneCell' = true := fun v hv => by obtain ⟨j, hj, e⟩ := List.mem_iff_getElem.1 hv; obtain ⟨x, rfl, _⟩ := hval j v (by rw [List.getElem?_eq_getElem hj, e]); rfl
 have fin : ∀ w', w' = w.setRow (ρ id).blk (cur.toList.take off ++ vals ++ cur.toList.drop (off + vals.length)).toArray → FitsAt X h ρ { st with objs := oput st.objs id (.box (cs.take off ++ acc ++ cs.drop (off + acc.length))) } a w' ∧ w.heap.size ≤ w'.heap.size ∧ ∀ b, b ≠ (ρ id).blk → w'.heap[b]? = w.heap[b]? := by
  intro w' hw; subst hw; refine ⟨F.setOb id (.box cs) _ _ ho hn0 ⟨hn0, ⟨_, tc, setRow_heap w _ cur _ tc _ hcur, by simp [hvl]; omega, fun k u c hu hc => ?_⟩, hno⟩ (fun b hb => setRow_other _ _ _ _ hb) (Zb5 _ _ _), by simp, fun b hb => setRow_other _ _ _ _ hb⟩; simp only [List.getElem?_toArray] at hu; rw [List.append_assoc, List.getElem?_append] at hu hc; have l1 : (List.take off cur.toList).length = off := by simp; omega
  have l2 : (List.take off cs).length = off := (by simp; omega); rw [l1] at hu; rw [l2] at hc; by_cases c1 : k < off
  ·rw [if_pos c1, List.getElem?_take, if_pos c1] at hu hc; exact hcell k u c (by simpa using hu) hc
  ·rw [if_neg c1, List.getElem?_append] at hu hc; rw [hvl] at hu; by_cases c2 : k - off < acc.length
   ·rw [if_pos c2] at hu hc; obtain ⟨x, rfl, e⟩ := hval _ u hu; rw [e] at hc; cases hc; exact ⟨.pure _ _ (.val _), rfl⟩
   ·rw [if_neg c2, List.getElem?_drop] at hu hc; exact hcell _ u c (by simpa using hu) hc
 by_cases h0 : 0 < ys.length
 ·obtain ⟨b, o2, rfl, hsp', hrow, hc⟩ := hp h0
  have hs1 : sz' = 1 ∨ acc = [] := by
   cases hacc0 : acc with
   | nil => exact .inr rfl
   | cons c cs0 =>
    left
    obtain ⟨_, hr0⟩ := hacc 0 c (by rw [hacc0]; rfl); have hh : ys[0]? = some [c] := (by rw [List.getElem?_eq_getElem h0]; have : rget ys (Int.ofNat 0) = ys[0] := (by simp [rget, h0]); rw [← this, hr0]); have := hrow 0 _ hh
    simpa using this.symm
  refine ⟨_, run_copy_row P w t1 t2 ty e (ρ id).blk off m m ⟨b, o2, none⟩ ys.length cap cur tc vals hu (by simp [hi, hi1]) hcur (by rw [hvl]; exact hal) (fun j v hv => ?_) (by rw [hvl]; omega) hone |>.trans (by rw [hvl]), fin _ rfl⟩; obtain ⟨x, rfl, e⟩ := hval j v hv; have hjl : j < ys.length := by have := (List.getElem?_eq_some_iff.1 e).1; omega
  obtain ⟨_, hr0⟩ := hacc j _ e; have hh : ys[j]? = some [.val (.int kd x)] := (by rw [List.getElem?_eq_getElem hjl]; have : rget ys (Int.ofNat j) = ys[j] := (by simp [rget, hjl]); rw [← this, hr0]); obtain ⟨v', q1, q2, _⟩ := hc j _ 0 _ hh rfl
  cases q2
  rw [Zb0]
  rcases hs1 with rfl | hnil
  ·simpa using q1
  ·rw [hnil] at e; simp at e
 ·have hys : ys = [] := by cases ys with
   | nil => rfl
   | cons => simp at h0
  subst hys; have hacc0 : acc = [] := List.eq_nil_of_length_eq_zero (by rw [hal]; simp); subst hacc0; have hw : w = w.setRow (ρ id).blk (cur.toList.take off ++ vals ++ cur.toList.drop (off + vals.length)).toArray := (by have : (cur.toList.take off ++ vals ++ cur.toList.drop (off + vals.length)).toArray = cur := (by simp [vals]); rw [this, setRow_self w _ cur tc _ hcur]); refine ⟨w, ?_, fin w hw⟩
  cases p with
  | none =>
   have hs : ((P.info? e).map (·.size)).isSome = true := (by simp [hi]); have := run_copy_nil P w t1 t2 ty e ⟨(ρ id).blk, off, none⟩ m m hu hs; have hcap : ∀ c, (Builtin.copy_ #[t1, t2] ty #[.slice (some ⟨(ρ id).blk, off, none⟩) m m, .slice none 0 c]).run P w = .ok (goInt 0) w := by intro c; simp [Builtin.copy_, run_underlying hu, Builtin.lenOf, Builtin.firstCells, sizeOf, typeInfo, hi, storeCells]
   simpa using hcap cap
  | some ad => simp [Builtin.copy_, run_underlying hu, Builtin.lenOf, Builtin.firstCells, sizeOf, typeInfo, hi, storeCells, loadCells, loadCellsFrom]

theorem Zl3 {z : List SV} {parts : List (Nat × SV)} {len : Nat} {rows : List (List SV)} (hr : Zdw z parts len 0 = some rows) (hlt : ∀ p ∈ parts, p.1 < len) (hn : (parts.map (·.1)).Nodup) : ∀ p ∈ parts, ∃ s, Zdv p.2 = some s ∧ (cellsOf s).length = z.length := by
 intro p hp; obtain ⟨hl, hg⟩ := Zeh z parts len 0 rows hr; have hk : p.1 < rows.length := by rw [hl]; exact hlt p hp
 obtain ⟨h1, h2⟩ := hg p.1 _ (List.getElem?_eq_getElem hk); rw [Nat.zero_add] at h2
 have hf : parts.find? (fun q => Nat.beq q.1 p.1) = some p := by
  clear hg hl hr hlt h1 h2 hk
  induction parts with
  | nil => simp at hp
  | cons q qs ih =>
   simp only [List.map_cons, List.nodup_cons] at hn; rw [List.find?_cons]
   rcases List.mem_cons.1 hp with rfl | hp
   ·simp
   ·have hne : q.1 ≠ p.1 := fun e => hn.1 (by rw [e]; exact List.mem_map_of_mem (f := (·.1)) hp); simp only [Zaq hne]; exact ih hn.2 hp
 rw [hf] at h2; obtain ⟨s, e1, e2⟩ := h2; exact ⟨s, e1, by rw [← e2]; exact h1⟩

theorem Zia {h : Hp} {ρ : Nat → Loc} {st : St} {a : Act} (hsv : ∀ x, Rep h ρ (a.eval x) (st.val x)) : ∀ (xs : List Operand) (vs : List Value), Zlt (xs.map st.val) = some vs → vs = xs.map a.eval
 | [], vs, e => by simp [Zlt] at e; simp [e]
 | x :: xs, vs, e => by
  have hx := hsv x; simp only [List.map_cons] at e ⊢; generalize st.val x = s at e hx
  cases s with
  | val v =>
   simp only [Zlt] at e
   split at e
   ·rename_i us hu
    cases e
    rw [← Zia hsv xs us hu, hx.val_inv]
   ·cases e
  | _ => simp [Zlt] at e

theorem Zk4 {kd : IntKind} : ∀ (m : Nat) (zs : List SV), zeroL kd m zs = true → zs = (azero m).map fun x => SV.val (.int kd x)
 | 0, [], _ => rfl
 | 0, _ :: _, h => by simp [zeroL] at h
 | m + 1, [], h => by simp [zeroL] at h
 | m + 1, z :: zs, h => by
  unfold zeroL at h
  split at h
  ·simp_all
  ·rename_i m' kd' zs' e1 e2
   cases e1
   cases e2
   simp only [Bool.and_eq_true, decide_eq_true_eq] at h; obtain ⟨rfl, h2⟩ := h; have := Zk4 m _ h2; rw [this]; simp [azero, List.replicate_succ]
  ·cases h

theorem Zv1 (F : FitsAt X h ρ st a w) (id : Nat) (hid : idOK id = true) (vs : Array Value) (t : TypeId) (kd : IntKind) (m : Nat) (ns : List Int) (hm : ns.length = m) (hv : vs.toList = ns.map (Value.int kd)) :
  FitsAt X h (upd ρ id ⟨w.heap.size, 0, 0, 0, 0, false⟩) (st.bind id (.arr kd m ns)) a (w.alloc (.cells vs t)) :=
 F.newOwn id hid (.arr kd m ns) _ (Zby w _) (by simp) (fun _ => Nat.le_refl _)
  ⟨by rw [Zad], ⟨vs, t, by rw [Zad]; show (w.heap.push _)[_]? = _; simp, hm, hv⟩, fun o => by rw [Zad]; exact Zcy F.sub o _ (Nat.le_refl _)⟩

theorem Zr7 (F : FitsAt X h ρ st a w) {t : TypeId} {id m : Nat} {kd : IntKind} {ns : List Int} {i v : Int} (ho : oget st.objs id = some (.arr kd m ns)) (hz : szT P t = some 1) (h0 : 0 ≤ i) (h1 : i < Int.ofNat m) :
  ∃ w', (Instr.storeAt t (.pointer (some ⟨(ρ id).blk, i.toNat, none⟩)) (.int kd v)).run P w = .ok () w' ∧ FitsAt X h ρ { st with objs := oput st.objs id (.arr kd m (aset ns i v)) } a w' ∧
   w.heap.size ≤ w'.heap.size ∧ ∀ b, b ≠ (ρ id).blk → w'.heap[b]? = w.heap[b]? := by
 obtain ⟨hn0, ⟨cur, ty, hcur, hm, hv⟩, hno⟩ := F.obj id _ ho; have hlt : i.toNat < ns.length := by simp at h1; omega
 have hsz : cur.size = ns.length := (by have := congrArg List.length hv; simpa using this); have hrun := run_storeCells_at P (ρ id).blk i.toNat ty [.int kd v] 0 cur w hcur (by simp; omega) (fun u hu => by simp at hu; subst hu; rfl)
 refine ⟨_, ?_, F.setOb id (.arr kd m ns) (.arr kd m (aset ns i v)) (w.setRow (ρ id).blk (cur.toList.take (i.toNat + 0) ++ [Value.int kd v] ++ cur.toList.drop (i.toNat + 0 + [Value.int kd v].length)).toArray) ho hn0 ⟨hn0, ⟨_, ty, setRow_heap w _ cur _ ty _ hcur, by simp [aset]; exact hm, ?_⟩, hno⟩
  (fun b hb => setRow_other _ _ _ _ hb) (Zb5 _ _ _), by simp, fun b hb => setRow_other _ _ _ _ hb⟩
 ·simp only [Instr.storeAt, Instr.sureAddr, storeVar, Sem.run_bind, Sem.run_pure, Result.andThen_ok, run_sizeOf' w hz]; have : ¬ ((Value.int kd v).cells.size ≠ 1) := (by simp [Value.cells]); simp only [this, if_false]; have hcs : (Value.int kd v).cells.toList = [.int kd v] := (by simp [Value.cells]); rw [hcs]; exact hrun
 ·rw [hv]; simp only [List.length_cons, List.length_nil, Nat.add_zero, aset]; rw [List.set_eq_take_append_cons_drop]; simp [hlt, List.map_take, List.map_drop]

theorem Zwp (F : FitsAt X h ρ st a w) {t : TypeId} {id m n : Nat} {kd : IntKind} {ns ns' : List Int} {vs : Array Value} (ho : oget st.objs id = some (.arr kd m ns)) (hz : szT P t = some n) (hn : n = m) (hm : ns'.length = m) (hvs : vs.toList = ns'.map (Value.int kd)) :
  ∃ w', (Instr.storeAt t (.pointer (some ⟨(ρ id).blk, 0, none⟩)) (.agg vs)).run P w = .ok () w' ∧ FitsAt X h ρ { st with objs := oput st.objs id (.arr kd m ns') } a w' ∧
   w.heap.size ≤ w'.heap.size ∧ ∀ b, b ≠ (ρ id).blk → w'.heap[b]? = w.heap[b]? := by
 obtain ⟨hn0, ⟨cur, ty, hcur, hm0, hv⟩, hno⟩ := F.obj id _ ho; have hsz : cur.size = ns.length := by have := congrArg List.length hv; simpa using this
 have hsz2 : vs.size = m := by have := congrArg List.length hvs; simp at this; omega
 have hrun := run_storeCells_at P (ρ id).blk 0 ty vs.toList 0 cur w hcur (by simp; omega) (fun u hu => by
  rw [hvs] at hu; obtain ⟨x, _, rfl⟩ := List.mem_map.1 hu
  rfl)
 refine ⟨_, ?_, F.setOb id (.arr kd m ns) (.arr kd m ns') (w.setRow (ρ id).blk (cur.toList.take (0 + 0) ++ vs.toList ++ cur.toList.drop (0 + 0 + vs.toList.length)).toArray) ho hn0 ⟨hn0, ⟨_, ty, setRow_heap w _ cur _ ty _ hcur, hm, ?_⟩, hno⟩
  (fun b hb => setRow_other _ _ _ _ hb) (Zb5 _ _ _), by simp, fun b hb => setRow_other _ _ _ _ hb⟩
 ·simp only [Instr.storeAt, Instr.sureAddr, storeVar, Sem.run_bind, Sem.run_pure, Result.andThen_ok, run_sizeOf' w hz]; have : ¬ ((Value.agg vs).cells.size ≠ n) := by simp [Value.cells]; omega
  simp only [this, if_false]; exact hrun
 ·have hd : cur.toList.drop (0 + 0 + vs.toList.length) = [] := List.drop_eq_nil_of_le (by simp; omega); rw [hd]
  simpa using hvs

theorem Zk5 (F : FitsAt X h ρ st a w) (Sg : FuncId → Sig) (Sv : TypeId → Sig) (o : Oper) (K : St → Prop) (hx : loudC P Sg Sv o st K) (Q : Exit → Act → World → Prop) : o.wp P a w (After X K o a w (Zc6 Sg Sv st ρ o)) Q := by
 have hsv := F.val; unfold loudC at hx
 cases hdst : dstOK o.dst with
 | false => simp [hdst] at hx
 | true =>
 simp only [hdst, cond_true] at hx
 split at hx
 ·rename_i t heq
  split at hx
  ·rename_i kd m hbig; unfold Zqw at hx
   split at hx
   ·rename_i zs d hz hd; rw [hd] at hdst
    cases hzl : zeroL kd m zs with
    | false => simp only [hzl, cond_false] at hx
    | true =>
     simp only [hzl, cond_true] at hx; obtain ⟨v, hv, r, hb⟩ := Zc3 (h := h) (ρ := ρ) hz; have hzs := Zk4 m zs hzl; obtain ⟨vs, rfl, hs, hcv⟩ := r.agg_inv'; have hvl := Znr (h := h) (ρ := ρ) (kd := kd) (ns := azero m) (vs := vs) (by rw [hs, hzs]; simp) (fun i v c h1 h2 => hcv i v c h1 (by rw [hzs]; exact h2))
     have F1 := (Zv1 F (128 * d) (by simpa using Zgx hdst (k := 0) (by omega)) vs t kd m (azero m) (by simp [azero]) hvl).put o.dst (TRep.of_rep' (v := .pointer (some ⟨w.heap.size, 0, none⟩)) (s := .ptr (128 * d) 0) (by
      have := Rep.ptr (h := h) (ρ := upd ρ (128 * d) ⟨w.heap.size, 0, 0, 0, 0, false⟩) (128 * d) 0
      rwa [Zad] at this))
     have hrun : (execOp a.eval o).run P w = .ok (.value (.pointer (some ⟨w.heap.size, 0, none⟩))) (w.alloc (.cells vs t)) := (by simp [execOp, heq, Instr.alloc, hv, newVar, newRow, Value.cells]); unfold Oper.wp; rw [hrun]; exact ⟨⟨_, ⟨h, _, F1⟩, hx⟩, ⟨_, rfl⟩, by show _ ≤ (w.heap.push _).size; simp, fun b hb _ => Below.heap_alloc w _ b hb⟩
   ·exact hx.elim
  split at hx
  ·rename_i z d hz hd; rw [hd] at hdst; obtain ⟨v, hv, r, hb⟩ := Zc3 (h := h) (ρ := ρ) hz; obtain ⟨hl, hc⟩ := Zer r hb
   have F1 := (F.newBox (128 * d) (by simpa using Zgx hdst (k := 0) (by omega)) v.cells t (cellsOf z) hl hc).put o.dst (TRep.of_rep' (v := .pointer (some ⟨w.heap.size, 0, none⟩)) (s := .ptr (128 * d) 0) (by
    have := Rep.ptr (h := h) (ρ := upd ρ (128 * d) ⟨w.heap.size, 0, 0, 0, 0, false⟩) (128 * d) 0
    rwa [Zad] at this))
   have hrun : (execOp a.eval o).run P w = .ok (.value (.pointer (some ⟨w.heap.size, 0, none⟩))) (w.alloc (.cells v.cells t)) := (by simp [execOp, heq, Instr.alloc, hv, newVar, newRow]); unfold Oper.wp; rw [hrun]; exact ⟨⟨_, ⟨h, _, F1⟩, hx⟩, ⟨_, rfl⟩, by show _ ≤ (w.heap.push _).size; simp, fun b hb _ => Below.heap_alloc w _ b hb⟩
  ·exact hx.elim
 ·rename_i t x heq
  split at hx
  ·rename_i kd m ns har
   have hxs : st.val x = .arr kd m ns := by
    unfold arrOf at har
    split at har
    ·rename_i hh; cases har; exact hh
    ·cases har
   unfold Zwg at hx
   split at hx
   ·rename_i d hd; rw [hd] at hdst; have hrx := hsv x; rw [hxs] at hrx; obtain ⟨vs, hvx, hm, hvl⟩ := hrx.arr_inv
    have F1 := (Zv1 F (128 * d) (by simpa using Zgx hdst (k := 0) (by omega)) vs t kd m ns hm hvl).put o.dst (TRep.of_rep' (v := .pointer (some ⟨w.heap.size, 0, none⟩)) (s := .ptr (128 * d) 0) (by
     have := Rep.ptr (h := h) (ρ := upd ρ (128 * d) ⟨w.heap.size, 0, 0, 0, 0, false⟩) (128 * d) 0
     rwa [Zad] at this))
    have hrun : (execOp a.eval o).run P w = .ok (.value (.pointer (some ⟨w.heap.size, 0, none⟩))) (w.alloc (.cells vs t)) := (by simp [execOp, heq, hvx, Instr.box, newVar, newRow, Value.cells]); unfold Oper.wp; rw [hrun]; exact ⟨⟨_, ⟨h, _, F1⟩, hx⟩, ⟨_, rfl⟩, by show _ ≤ (w.heap.push _).size; simp, fun b hb _ => Below.heap_alloc w _ b hb⟩
   ·exact hx.elim
  split at hx
  ·rename_i d hd; rw [hd] at hdst
   cases hb : boxL (cellsOf (st.val x)) with
   | false => simp [hb] at hx
   | true =>
    simp only [hb, cond_true] at hx; obtain ⟨hl, hc⟩ := Zer (hsv x) hb
    have F1 := (F.newBox (128 * d) (by simpa using Zgx hdst (k := 0) (by omega)) (a.eval x).cells t (cellsOf (st.val x)) hl hc).put o.dst (TRep.of_rep' (v := .pointer (some ⟨w.heap.size, 0, none⟩)) (s := .ptr (128 * d) 0) (by
     have := Rep.ptr (h := h) (ρ := upd ρ (128 * d) ⟨w.heap.size, 0, 0, 0, 0, false⟩) (128 * d) 0
     rwa [Zad] at this))
    have hrun : (execOp a.eval o).run P w = .ok (.value (.pointer (some ⟨w.heap.size, 0, none⟩))) (w.alloc (.cells (a.eval x).cells t)) := (by simp [execOp, heq, Instr.box, newVar, newRow]); unfold Oper.wp; rw [hrun]; exact ⟨⟨_, ⟨h, _, F1⟩, hx⟩, ⟨_, rfl⟩, by show _ ≤ (w.heap.push _).size; simp, fun b hb _ => Below.heap_alloc w _ b hb⟩
  ·exact hx.elim
 ·rename_i t x y heq
  split at hx
  rotate_left
  ·rename_i id i hxs hz; unfold Zqx at hx
   split at hx
   ·rename_i kd m ns kd' v ho hys; by_cases hk : kd = kd'
    ·subst hk; simp only [decide_true, cond_true] at hx; obtain ⟨⟨h0, h1⟩, hx⟩ := hx; have hrx := hsv x; rw [hxs] at hrx; have hpx := hrx.aptr_inv; have hry := hsv y; rw [hys] at hry; obtain ⟨w', hrun, F1, hsz, hoth⟩ := Zr7 (P := P) (t := t) (v := v) F ho hz h0 h1; have hrun' : (execOp a.eval o).run P w = .ok .skip w' := (by simp [execOp, heq, hpx, hry.val_inv, hrun]); unfold Oper.wp; rw [hrun']; refine ⟨⟨_, ⟨h, ρ, F1.put o.dst (TRep.rep_unk _ _)⟩, hx⟩, ⟨_, rfl⟩, hsz, fun b _ hne => hoth b (fun e => ?_)⟩; obtain ⟨tids, e1, e2⟩ := Zbe hne; simp only [touch, heq, hxs] at e1
     cases e1
     exact e2 id (by simp) ⟨⟨_, ho⟩, (F.obj id _ ho).1⟩ e.symm
    ·simp [hk] at hx
   ·rename_i cs kd v ho hys
    split at hx
    ·rename_i ns hns; obtain ⟨⟨h0, h1⟩, hx⟩ := hx; have hcs := Zj3 hns; subst hcs; have hrx := hsv x; rw [hxs] at hrx; have hpx := hrx.aptr_inv; have hry := hsv y; have h1 : i < ns.length := by rw [Zbi] at h1; simpa using h1
     obtain ⟨w', hrun, F1, hsz, hoth⟩ := Zka F ho hz hry (by rw [hys]; rfl) (by rw [hys]; rfl) (by rw [hys]; exact Zos kd i v ns h0 h1); have hrun' : (execOp a.eval o).run P w = .ok .skip w' := (by simp [execOp, heq, hpx, hrun]); unfold Oper.wp; rw [hrun']; refine ⟨⟨_, ⟨h, ρ, F1.put o.dst (TRep.rep_unk _ _)⟩, hx⟩, ⟨_, rfl⟩, hsz, fun b _ hne => hoth b (fun e => ?_)⟩; obtain ⟨tids, e1, e2⟩ := Zbe hne; simp only [touch, heq, hxs] at e1
     cases e1
     exact e2 id (by simp) ⟨⟨_, ho⟩, (F.obj id _ ho).1⟩ e.symm
    ·exact hx.elim
   ·exact hx.elim
  rotate_right
  ·rename_i id off n hxs hz
   split at hx
   ·rename_i cs ho
    cases hb : (boxL (cellsOf (st.val y)) && Nat.beq (lenN (cellsOf (st.val y))) n) with
    | false => simp [hb] at hx
    | true =>
     simp only [hb, cond_true] at hx; simp only [Bool.and_eq_true] at hb
     split at hx
     ·rename_i cs' hsp; have hrx := hsv x; rw [hxs] at hrx; have hpx := hrx.ptr_inv; obtain ⟨w', hrun, F1, hsz, hoth⟩ := Zka F ho hz (hsv y) hb.1 (Nat.eq_of_beq_eq_true hb.2) hsp; have hrun' : (execOp a.eval o).run P w = .ok .skip w' := (by simp [execOp, heq, hpx, hrun]); unfold Oper.wp; rw [hrun']; refine ⟨⟨_, ⟨h, ρ, F1.put o.dst (TRep.rep_unk _ _)⟩, hx⟩, ⟨_, rfl⟩, hsz, fun b _ hne => hoth b (fun e => ?_)⟩; obtain ⟨tids, e1, e2⟩ := Zbe hne; simp only [touch, heq, hxs] at e1
      cases e1
      exact e2 id (by simp) ⟨⟨_, ho⟩, (F.obj id _ ho).1⟩ e.symm
     ·exact hx.elim
   ·rename_i kd m ns ho; unfold Zwh at hx
    split at hx
    ·rename_i kd' m' ns' hys
     cases hb : (decide (kd = kd') && Nat.beq m m' && Nat.beq off 0 && Nat.beq n m) with
     | false => simp only [hb, cond_false] at hx
     | true =>
      simp only [hb, cond_true] at hx; simp only [Bool.and_eq_true, decide_eq_true_eq] at hb; obtain ⟨⟨⟨rfl, b1⟩, b2⟩, b3⟩ := hb; have h1 : m = m' := Nat.eq_of_beq_eq_true b1; have h2 : off = 0 := Nat.eq_of_beq_eq_true b2; have h3 : n = m := Nat.eq_of_beq_eq_true b3; subst h1 h2; have hrx := hsv x; rw [hxs] at hrx; have hpx := hrx.ptr_inv; have hry := hsv y; rw [hys] at hry; obtain ⟨vs, hvy, hm, hvl⟩ := hry.arr_inv; obtain ⟨w', hrun, F1, hsz, hoth⟩ := Zwp (P := P) (t := t) F ho hz h3 hm hvl; have hrun' : (execOp a.eval o).run P w = .ok .skip w' := (by simp [execOp, heq, hpx, hvy, hrun]); unfold Oper.wp; rw [hrun']; refine ⟨⟨_, ⟨h, ρ, F1.put o.dst (TRep.rep_unk _ _)⟩, hx⟩, ⟨_, rfl⟩, hsz, fun b _ hne => hoth b (fun e => ?_)⟩; obtain ⟨tids, e1, e2⟩ := Zbe hne; simp only [touch, heq, hxs] at e1
      cases e1
      exact e2 id (by simp) ⟨⟨_, ho⟩, (F.obj id _ ho).1⟩ e.symm
    ·exact hx.elim
   ·exact hx.elim
  ·rename_i id e i off n hxs hz
   split at hx
   ·rename_i sz rows z s ho hze hs
    cases hb : (Nat.beq z sz && Nat.beq (lenN (cellsOf s)) n) with
    | false => simp [hb] at hx
    | true =>
     simp only [hb, cond_true] at hx; simp only [Bool.and_eq_true] at hb; have hzs : z = sz := Nat.eq_of_beq_eq_true hb.1; subst hzs; have hcl : (cellsOf s).length = n := by rw [← Zbi]; exact Nat.eq_of_beq_eq_true hb.2
     obtain ⟨⟨h0, h1⟩, hx⟩ := hx; obtain ⟨h', hle, F'⟩ := F.pureOps [y]; have hrx := hsv x; rw [hxs] at hrx; obtain ⟨hn0, hpx⟩ := hrx.eptr_inv
     have fin : ∀ cs cs', rows[i.toNat]? = some cs → Zbs off (cellsOf s) cs = some cs' → K (({ pureOps [y] st with objs := oput (pureOps [y] st).objs id (.own z (rset rows i cs')) } : St).put o.dst .unk) →
       o.wp P a w (After X K o a w (Zc6 Sg Sv st ρ o)) Q := by
      intro cs cs' hrow hsp hk; obtain ⟨w', hrun, F1, hsz, hoth⟩ := Zs4 F' ho hz (F'.val y) hs hcl h0 h1 hrow hsp hn0; have hrun' : (execOp a.eval o).run P w = .ok .skip w' := (by simp [execOp, heq, hpx, hrun]); unfold Oper.wp; rw [hrun']; refine ⟨⟨_, ⟨h', ρ, F1.put o.dst (TRep.rep_unk _ _)⟩, hk⟩, ⟨_, rfl⟩, hsz, fun b _ hne => hoth b (fun e => ?_)⟩; obtain ⟨tids, e1, e2⟩ := Zbe hne; simp only [touch, heq, hxs] at e1
      cases e1
      exact e2 id (by simp) ⟨Zf0 _ ho, hn0⟩ e.symm
     cases hfull : (Nat.beq n z && Nat.beq off 0) with
     | true =>
      simp only [hfull, cond_true] at hx; simp only [Bool.and_eq_true] at hfull; have hnz := Nat.eq_of_beq_eq_true hfull.1; have hoff := Nat.eq_of_beq_eq_true hfull.2; subst hoff; have hit : i.toNat < rows.length := by simp only [rlen] at h1; simp at h1; omega
      have hrl : (rows[i.toNat]).length = z := by
       rcases F'.obj id _ ho with ⟨hn', _⟩ | ⟨_, ok⟩
       ·rw [hn0] at hn'; cases hn'
       ·exact ok.hrow _ _ (List.getElem?_eq_getElem hit)
      have hspl : ∀ (vs l : List SV), vs.length = l.length → Zbs 0 vs l = some vs := by
       intro vs
       induction vs with
       | nil => intro l e; cases l with
        | nil => rfl
        | cons => simp at e
       | cons v vs ih => intro l e; cases l with
        | nil => simp at e
        | cons y l => simp [Zbs, ih l (by simpa using e)]
      exact fin _ _ (List.getElem?_eq_getElem hit) (hspl _ _ (by omega)) hx
     | false =>
      simp only [hfull, cond_false] at hx; obtain ⟨cs, _, hcs, hk⟩ := Zfi _ _ _ hx; obtain ⟨_, hrow⟩ := Zj2 h0 h1 hcs
      split at hk
      ·rename_i cs' hsp; exact fin cs cs' hrow hsp hk
      ·exact hk.elim
   ·exact hx.elim
  ·exact hx.elim
 ·rename_i t len parts heq
  split at hx
  ·rename_i e d hu hd; rw [hd] at hdst
   split at hx
   ·rename_i z hz
    cases hb : (Zce P e && Nat.ble (len * lenN z) 16777216 && Nat.beq (lenN z) ((szT P e).getD 0) && parts.toList.all (fun p => Nat.blt p.1 len) && Zcd (parts.toList.map (·.1))) with
    | false => simp only [hb, cond_false] at hx
    | true =>
     simp only [hb, cond_true] at hx; simp only [Bool.and_eq_true, List.all_eq_true, Zbi] at hb; obtain ⟨⟨⟨⟨hb1, hb2⟩, hb3⟩, hb4⟩, hb5⟩ := hb
     split at hx
     ·rename_i rows hrows; obtain ⟨h', hle, F'⟩ := F.pureOps (parts.toList.map (·.2)); have hnd : ((parts.toList.map fun p => (p.1, (pureOps (parts.toList.map (·.2)) st).val p.2)).map (·.1)).Nodup := by rw [List.map_map]; exact Zbm hb5
      have hlt : ∀ p ∈ (parts.toList.map fun p => (p.1, (pureOps (parts.toList.map (·.2)) st).val p.2)), p.1 < len := fun p hp => by obtain ⟨q, hq, rfl⟩ := List.mem_map.1 hp; exact Nat.le_of_ble_eq_true (hb4 q hq)
      obtain ⟨cs, hrun, hrl, hown⟩ := Zkw (P := P) (ρ := ρ) F'.sub (vparts := parts.map fun (i, x) => (i, a.eval x)) hu hz hb1 (Nat.le_of_ble_eq_true hb2) (Nat.eq_of_beq_eq_true hb3) hlt hnd hrows (by simp) (fun i p q hp hq => by
       simp at hp hq; obtain ⟨m, n, e1, rfl⟩ := hp; obtain ⟨m', n', e2, rfl⟩ := hq; rw [e1] at e2
       cases e2
       exact ⟨rfl, F'.val n⟩) (Zl3 hrows hlt hnd)
      have hid := Zgx hdst (k := 64) (by omega); have F1 := F'.newOwn (128 * d + 64) hid (.own z.length rows) ⟨w.heap.size, 0, rows.length, len, z.length, false⟩ (Zby w _) (by simp) (fun _ => Nat.le_refl _) (.inr ⟨by rw [Zad], by rw [Zad]; exact hown⟩); have hr := Rep.osl (h := h') (ρ := upd ρ (128 * d + 64) ⟨w.heap.size, 0, rows.length, len, z.length, false⟩) (128 * d + 64) (by rw [Zad]); rw [Zad, hrl] at hr; have hrun' : (execOp a.eval o).run P w = .ok (.value (.slice (some ⟨w.heap.size, 0, none⟩) len len)) (w.alloc (.cells cs e)) := (by simp only [execOp, heq, Sem.run_bind, hrun, Result.andThen_ok]; rfl); unfold Oper.wp; rw [hrun']; rw [Zbi] at hx; refine ⟨⟨_, ⟨h', _, F1.put o.dst (TRep.of_rep' ?_)⟩, hx⟩, ⟨_, rfl⟩, (Zby w _).size, fun b hb _ => Below.heap_alloc w _ b hb⟩; rw [hrl]; exact hr
     ·exact hx.elim
   ·exact hx.elim
  ·exact hx.elim
 ·rename_i t l c heq
  split at hx
  ·rename_i e d n m hu hd hls hcs; rw [hd] at hdst
   split at hx
   ·rename_i z hz
    cases hb : (Zce P e && Nat.beq (lenN z) ((szT P e).getD 0)) with
    | false => simp only [hb, cond_false] at hx
    | true => simp only [hb, cond_true] at hx; simp only [Zbi] at hx; simp only [Bool.and_eq_true, Zbi] at hb; obtain ⟨⟨h0, h1, h2⟩, hx⟩ := hx; obtain ⟨cs, hrun, hown⟩ := Zms (P := P) F.sub hu hz hb.1 (Nat.eq_of_beq_eq_true hb.2) h0 h1 h2; have hl := hsv l; rw [hls] at hl; have hc := hsv c; rw [hcs] at hc; have hid := Zgx hdst (k := 64) (by omega); have F1 := F.newOwn (128 * d + 64) hid (.own z.length (rrep n z)) ⟨w.heap.size, 0, (rrep n z).length, m.toNat, z.length, false⟩ (Zby w (.cells cs e)) (by simp) (fun _ => Nat.le_refl _) (.inr ⟨by rw [Zad], by rw [Zad]; exact hown⟩); have hr := Rep.osl (h := h) (ρ := upd ρ (128 * d + 64) ⟨w.heap.size, 0, (rrep n z).length, m.toNat, z.length, false⟩) (128 * d + 64) (by rw [Zad]); rw [Zad] at hr; have hrl : (rrep n z).length = n.toNat := (by simp [rrep]); have hrun' : (execOp a.eval o).run P w = .ok (.value (.slice (some ⟨w.heap.size, 0, none⟩) n.toNat m.toNat)) (w.alloc (.cells cs e)) := (by simp only [execOp, heq, hl.val_inv, hc.val_inv, Sem.run_bind, hrun, Result.andThen_ok]; rfl); unfold Oper.wp; rw [hrun']; refine ⟨⟨_, ⟨h, _, F1.put o.dst (TRep.of_rep' ?_)⟩, hx⟩, ⟨_, rfl⟩, (Zby w _).size, fun b hb _ => Below.heap_alloc w _ b hb⟩; simp only [hrl] at hr ⊢; exact hr
   ·exact hx.elim
  ·exact hx.elim
 ·rename_i t r heq
  split at hx
  ·rename_i kt et d hu hd; rw [hd] at hdst; have hid := Zgx hdst (k := 64) (by omega); have go : K ((st.bind (128 * d + 64) (.mp [])).put o.dst (.omp (128 * d + 64))) → (execOp a.eval o).run P w = .ok (.value (.map (some w.heap.size))) (w.alloc (.map #[] 0)) → o.wp P a w (After X K o a w (Zc6 Sg Sv st ρ o)) Q := by intro hk hrun; have F1 := F.newOwn (128 * d + 64) hid (.mp []) ⟨w.heap.size, 0, 0, 0, 0, false⟩ (Zby w (.map #[] 0)) (by simp) (fun _ => Nat.le_refl _) ⟨by rw [Zad], ⟨#[], 0, by rw [Zad]; show (w.heap.push _)[_]? = _; simp, by simp [MapOK]⟩, fun o => by rw [Zad]; exact Zcy F.sub o _ (Nat.le_refl _)⟩; have hr := Rep.omp (h := h) (ρ := upd ρ (128 * d + 64) ⟨w.heap.size, 0, 0, 0, 0, false⟩) (128 * d + 64); rw [Zad] at hr; unfold Oper.wp; rw [hrun]; exact ⟨⟨_, ⟨h, _, F1.put o.dst (TRep.of_rep' hr)⟩, hk⟩, ⟨_, rfl⟩, (Zby w _).size, fun b hb _ => Below.heap_alloc w _ b hb⟩
   split at hx
   ·rename_i hr0; have hr1 : r = none := by cases r <;> simp at hr0; rfl
    subst hr1; exact go hx (by simp [execOp, heq, Instr.makeMap, newObj, Sem.run])
   ·rename_i kd n hr0
    cases r with
    | none => simp at hr0
    | some y => simp at hr0; have hy := hsv y; rw [hr0] at hy; exact go hx (by simp [execOp, heq, Instr.makeMap, newObj, Sem.run, run_underlying hu, hy.val_inv, asInt, asIntOf])
   ·exact hx.elim
  ·exact hx.elim
 ·rename_i t m k v heq
  split at hx
  ·rename_i kt et id s n hu hms hks hvs
   split at hx
   ·rename_i es hkt ho; have h1 := hsv m; rw [hms] at h1; have h2 := hsv k; rw [hks] at h2; have h3 := hsv v; rw [hvs] at h3; obtain ⟨w', hrun, F1, hsz, hoth⟩ := Zs5 (P := P) F (n := n) (s := s) hu hkt ho; have hrun' : (execOp a.eval o).run P w = .ok .skip w' := (by simp [execOp, heq, h1.omp_inv, h2.val_inv, h3.val_inv, hrun]); unfold Oper.wp; rw [hrun']; refine ⟨⟨_, ⟨h, ρ, F1.put o.dst (TRep.rep_unk _ _)⟩, hx⟩, ⟨_, rfl⟩, hsz, fun b _ hne => hoth b (fun e => ?_)⟩; obtain ⟨tids, e1, e2⟩ := Zbe hne; simp only [touch, heq, hms] at e1
    cases e1
    exact e2 id (by simp) ⟨⟨_, ho⟩, (F.obj id _ ho).1⟩ e.symm
   ·exact hx.elim
  ·exact hx.elim
 ·rename_i src dst x heq
  split at hx
  ·rename_i e s hs hd hxs
   split at hx
   ·rename_i d he hdd; rw [hdd] at hdst; have h1 := hsv x; rw [hxs] at h1; obtain ⟨v, w', hrun, ⟨ρ', F1, hr⟩, hsz, hoth⟩ := Zrs (P := P) F hs hd he (Zgx hdst (k := 64) (by omega)) hx.1; have hrun' : (execOp a.eval o).run P w = .ok (.value v) w' := (by simp [execOp, heq, h1.val_inv, hrun]); unfold Oper.wp; rw [hrun']; exact ⟨⟨_, ⟨h, ρ', F1.put o.dst (TRep.of_rep' hr)⟩, hx.2⟩, ⟨_, rfl⟩, hsz, fun b hb _ => hoth b hb⟩
   ·exact hx.elim
  ·rename_i e e' id hs hd hxs
   split at hx
   ·rename_i sz rows he ho
    cases hb : (Nat.beq src dst && Nat.beq sz 1) with
    | false => simp only [hb, cond_false] at hx
    | true =>
     simp only [hb, cond_true] at hx; simp only [Bool.and_eq_true] at hb; have e1 := Nat.eq_of_beq_eq_true hb.1; have e2 := Nat.eq_of_beq_eq_true hb.2; subst e1; subst e2; have h1 := hsv x; rw [hxs] at h1; obtain ⟨w', hrun, F1, hsz, hn, hoth⟩ := Zrt (P := P) F hs he ho h1 hx.1; have hrun' : (execOp a.eval o).run P w = .ok (.value (a.eval x)) w' := (by simp [execOp, heq, hrun]); unfold Oper.wp; rw [hrun']; refine ⟨⟨_, ⟨h, ρ, F1.put o.dst (TRep.of_rep' h1)⟩, hx.2⟩, ⟨_, rfl⟩, hsz, fun b hb hne => hoth b (fun e => ?_)⟩; obtain ⟨tids, q1, q2⟩ := Zbe hne; simp only [touch, heq, hxs] at q1
     cases q1
     exact q2 id (by simp) ⟨⟨_, ho⟩, hn⟩ e.symm
   ·exact hx.elim
  ·exact hx.elim
 ·rename_i x y t1 t2 heq
  split at hx
  ·rename_i e d sz' ys hu hd hsrc; rw [hd] at hdst
   split at hx
   ·rename_i z hz
    cases hb : (Zce P e && srcOK z sz') with
    | false => simp only [hb, cond_false] at hx
    | true =>
     simp only [hb, cond_true] at hx; simp only [Bool.and_eq_true] at hb; have hid := Zgx hdst (k := 64) (by omega)
     split at hx
     ·rename_i id hxs
      split at hx
      ·rename_i sz rows ho
       cases hzz : Nat.beq z sz with
       | false => simp only [hzz, cond_false] at hx
       | true =>
        simp only [hzz, cond_true] at hx; have := Nat.eq_of_beq_eq_true hzz; subst this; have h1 := hsv x; rw [hxs] at h1; obtain ⟨v, w', hrun, ⟨ρ', F1, hr⟩, hsz, hoth⟩ := Zrr (P := P) (ty := o.type) F hu hz hb.1 hsrc (hsv y) hb.2 ho h1 hx.1 hid; have hrun' : (execOp a.eval o).run P w = .ok (.value v) w' := (by simp [execOp, heq, resolve, invoke, builtin, hrun]); unfold Oper.wp; rw [hrun']; refine ⟨⟨_, ⟨h, ρ', F1.put o.dst (TRep.of_rep' hr)⟩, hx.2⟩, ⟨_, rfl⟩, hsz, fun b hb' hne => hoth b hb' (fun hl => ?_)⟩; obtain ⟨tids, e1, e2⟩ := Zbe hne; simp only [touch, heq, hxs] at e1
        cases e1
        exact e2 id (by simp) hl
      ·exact hx.elim
     ·rename_i sz hxs; have h1 := hsv x; rw [hxs] at h1; obtain ⟨v, w', hrun, ⟨ρ', F1, hr⟩, hsz, hoth⟩ := append_nil (P := P) (ty := o.type) F hu hz hb.1 hsrc (hsv y) hb.2 h1 hx.1 hid; have hrun' : (execOp a.eval o).run P w = .ok (.value v) w' := (by simp [execOp, heq, resolve, invoke, builtin, hrun]); unfold Oper.wp; rw [hrun']; exact ⟨⟨_, ⟨h, ρ', F1.put o.dst (TRep.of_rep' hr)⟩, hx.2⟩, ⟨_, rfl⟩, hsz, fun b hb' _ => hoth b hb'⟩
     ·exact hx.elim
   ·exact hx.elim
  ·exact hx.elim
 ·rename_i x y t1 t2 heq
  split at hx
  ·rename_i e id off m zz ys hu hxs hsrc
   split at hx
   ·rename_i cs kd hz ho he
    cases hb : Nat.ble m 4 with
    | false => simp only [hb, cond_false] at hx
    | true =>
     simp only [hb, cond_true] at hx
     have hro : ∃ sz', Zio st.objs (st.val y) = some (sz', ys) := by
      unfold Zhs at hsrc
      split at hsrc
      ·simp at hsrc; exact ⟨_, hsrc⟩
      ·simp at hsrc
      ·cases hsrc
     obtain ⟨sz', hro⟩ := hro; have h1 := hsv x; rw [hxs] at h1
     have hmin : imin (rlen ys) (Int.ofNat m) = ((min ys.length m : Nat) : Int) := by
      have hgen : ∀ p q : Int, imin p q = min p q := fun p q => by unfold imin; rw [Int.min_def]; split <;> split <;> omega
      rw [hgen]; show min (ys.length : Int) (m : Int) = _; omega
     obtain ⟨acc, hk, hal, hacc⟩ := Zne m [] hx (by rw [hmin]; simp) (by rw [hmin]; simp; omega) (by simp); rw [hmin] at hal
     split at hk
     ·rename_i cs' hsp; obtain ⟨w', hrun, F1, hsz, hoth⟩ := Zuj (P := P) (t2 := t2) (ty := o.type) (acc := acc) (m := m) F hu hz ho hro (hsv y) (kd := kd) hacc (by omega) hsp; have hrun' : (execOp a.eval o).run P w = .ok (.value (goInt acc.length)) w' := (by simp [execOp, heq, resolve, invoke, builtin, h1.bsl_inv, hrun]); unfold Oper.wp; rw [hrun']; rw [Zbi] at hk; refine ⟨⟨_, ⟨h, ρ, F1.put o.dst (TRep.of_rep' (.pure _ _ (.val _)))⟩, hk⟩, ⟨_, rfl⟩, hsz, fun b _ hne => hoth b (fun e => ?_)⟩; obtain ⟨tids, e1, e2⟩ := Zbe hne; simp only [touch, heq, hxs] at e1
      cases e1
      exact e2 id (by simp) ⟨⟨_, ho⟩, (F.obj id _ ho).1⟩ e.symm
     ·exact hk.elim
   ·exact hx.elim
  ·exact hx.elim
 ·rename_i f args at_ heq
  split at hx
  ·exact hx.elim
  ·rename_i fn hf
   split at hx
   ·split at hx
    ·rename_i vs hvs; obtain ⟨v, hr, hk⟩ := Zhg hx; have ha := Zia hsv _ _ hvs; have hrun : (execOp a.eval o).run P w = .ok (.value v) w := (by have := hr w; rw [show vs.toArray = args.map a.eval from by subst ha; cases args; simp] at this; simp [execOp, heq, resolve, Act.eval, Deferred.ofValue, invoke, this]); unfold Oper.wp; rw [hrun]; exact ⟨Goes.put F o.dst (.pure _ _ (.val _)) hk, ⟨_, rfl⟩, Nat.le_refl _, fun b _ _ => rfl⟩
    ·exact hx.elim
   obtain ⟨h', hle, F'⟩ := F.frzAll (Zej st.objs (Sg f).ps 0 (args.toList.map st.val))
   obtain ⟨g1, g2⟩ := Zlf (P := P) F F' hle f (Sg f) fn.params.toList fn.resultTypes.toList _ [] (args.map a.eval) #[] o.dst K (by simp) (fun i v s hv hs => by
    simp at hv hs; obtain ⟨x, hx1, rfl⟩ := hv; obtain ⟨x', hx2, rfl⟩ := hs; rw [hx1] at hx2; cases hx2
    exact F'.val x) rfl (by simp) hx
   simp only [Array.append_empty] at g1 g2; have hrun : (execOp a.eval o).run P w = .ok (.enter f (args.map a.eval)) w := (by simp [execOp, heq, resolve, Act.eval, Deferred.ofValue, invoke, g1]); unfold Oper.wp; rw [hrun]; refine Calls.mono g2 fun e w'' he => ?_; obtain ⟨v, rfl, hg, hsz, hbl⟩ := he; refine ⟨hg, ⟨_, rfl⟩, hsz, fun b hb hne => hbl b hb (fun id hm hl => ?_)⟩; obtain ⟨tids, e1, e2⟩ := Zbe hne; simp only [touch, heq] at e1
   cases e1
   obtain ⟨⟨o', ho'⟩, hnn⟩ := hl; exact e2 id hm ⟨Zf0 _ ho', hnn⟩
 ·rename_i t args argTypes heq
  split at hx
  ·rename_i f caps hcl; obtain ⟨h', hle, F'⟩ := F.frzAll (Zej st.objs (Sv o.type).ps 0 (args.toList.map st.val)); have hft := hsv (.tmp t); rw [hcl] at hft
   have hclo : ∃ cv : Array Value, a.eval (.tmp t) = .func (.func f) #[] cv ∧ cv.size = caps.length ∧ ∀ (i : Nat) v s, cv[i]? = some v → caps[i]? = some s → PRep h v s := by
    generalize a.eval (.tmp t) = v at hft
    cases hft with
    | pure _ _ hp => cases hp with
     | clo _ vs _ hl hc => exact ⟨vs, rfl, hl, hc⟩
   obtain ⟨cv, hev, hcl1, hcl2⟩ := hclo
   obtain ⟨g1, g2⟩ := Zlf (P := P) F F' hle f (Sv o.type) argTypes.toList _ _ caps (args.map a.eval) cv o.dst K (by simp) (fun i v s hv hs => by
    simp at hv hs; obtain ⟨x, hx1, rfl⟩ := hv; obtain ⟨x', hx2, rfl⟩ := hs; rw [hx1] at hx2; cases hx2
    exact F'.val x) hcl1 (fun i v s hv hs => (hcl2 i v s hv hs).mono hle) hx
   have hrun : (execOp a.eval o).run P w = .ok (.enter f (args.map a.eval ++ cv)) w := (by simp [execOp, heq, resolve, hev, Deferred.ofValue, invoke, g1]); unfold Oper.wp; rw [hrun]; refine Calls.mono g2 fun e w'' he => ?_; obtain ⟨v, rfl, hg, hsz, hbl⟩ := he; refine ⟨hg, ⟨_, rfl⟩, hsz, fun b hb hne => hbl b hb (fun id hm hl => ?_)⟩; obtain ⟨tids, e1, e2⟩ := Zbe hne; simp only [touch, heq] at e1
   cases e1
   obtain ⟨⟨o', ho'⟩, hnn⟩ := hl; exact e2 id hm ⟨Zf0 _ ho', hnn⟩
  ·exact hx.elim
 ·exact hx.elim

end
end Go.Px

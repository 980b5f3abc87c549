/- The conditions are sound. -/
import Derived.Test.YtggfbmcdodbchaaPxG
import Derived.Tactics
namespace Go.Px
open Go.RowKit

section
variable {w0 : World} {h0 h : Hp} {ρ : Nat → Loc} {st : St} {a : Act} {w : World} {P : Program}

theorem Rep.not_gd {v : Value} {t : Nat} {b : Bool} {x : SV} (r : Rep h ρ v (.gd t b x)) : False := by
  cases r with
  | pure _ _ hp => cases hp

theorem TRep.of_rep' {tm : Array Value} {v : Value} {s : SV} (r : Rep h ρ v s) : TRep h ρ tm v s :=
  .of_rep (fun t w x e => by subst e; exact r.not_gd) r

theorem Rep.ptr_inv {v : Value} {id off : Nat} (r : Rep h ρ v (.ptr id off)) : v = .pointer (some ⟨(ρ id).blk, off, none⟩) := by
  cases r with
  | pure _ _ hp => cases hp
  | ptr => rfl

def Goes (w0 : World) (h0 : Hp) (K : St → Prop) (a : Act) (w : World) : Prop := ∃ st, Fits w0 h0 st a w ∧ K st

theorem call_sound (F : FitsAt w0 h0 h ρ st a w) (T : FuncId → Bool) (f : FuncId) (ss : List SV) (vs : Array Value) (dst : Option Nat) (K : St → Prop)
    (hl : vs.size = ss.length) (hr : ∀ (i : Nat) v s, vs[i]? = some v → ss[i]? = some s → Rep h ρ v s) (hc : callC P T f ss dst st K) :
    (callFunc f vs).run P w = .ok (.enter f vs) w ∧
    Calls P f vs w fun e w'' => ∃ v, e = .returned v ∧ Goes w0 h0 K (a.put dst v) w'' ∧ w.heap.size ≤ w''.heap.size ∧ ∀ b, b < w.heap.size → w''.heap[b]? = w.heap[b]? := by
  unfold callC at hc
  split at hc
  · exact hc.elim
  · rename_i fn hf
    split at hc
    · exact hc.elim
    · rename_i as has
      cases hb : (fn.body.isSome && !(fn.name == "runtime.NumGoroutine")) with
      | false => simp [hb] at hc
      | true =>
        simp only [hb, cond_true] at hc
        obtain ⟨Q, hfn, hq⟩ := hc
        simp only [Bool.and_eq_true, Bool.not_eq_true', beq_eq_false_iff_ne] at hb
        refine ⟨?_, ?_⟩
        · simp [callFunc, hf, hb.2]
          intro hnone
          simp [hnone] at hb
        · obtain ⟨hla, hga⟩ := pureArgs_sound (h := h) (ρ := ρ) _ _ _ has
          refine (hfn h w vs F.sub (by omega) (fun i v s hv hs => ?_)).mono ?_
          · obtain ⟨s0, hs0, hp⟩ := hga i s hs
            exact hp v (hr i v s0 hv hs0)
          · rintro e w'' ⟨vr, h', ρr, rs, rfl, hQ, hlen, hret, htip, hdis, hsub, hext, hbel⟩
            refine ⟨_, rfl, ?_, hbel.size, hbel.block⟩
            have hle : HLe h h' := fun b o v e => by rw [hext b (F.sub.lt e)]; exact e
            have F1 := F.grow hle hbel.block hext hsub (F.bel.trans (hbel.mono F.bel.size))
            have hsh := hq rs hQ
            -- the shape gives rs itself
            have key : ∀ (ts : List TypeId) (K' : List SV → Prop), shapeVs P ts K' → ∃ ss, K' ss := by
              have cells : ∀ (n : Nat) (t : TypeId) (K' : List SV → Prop), shapeCells P n t K' → ∃ cs, K' cs := by
                intro n
                induction n with
                | zero => intro t K' h; exact h.elim
                | succ n ih =>
                  intro t K' h
                  simp only [shapeCells] at h
                  have fold : ∀ (l : List TypeId) (K' : List SV → Prop) (acc : List SV), (l.foldr (fun f k acc => shapeCells P n f fun cs => k (acc ++ cs)) K') acc → ∃ cs, K' cs := by
                    intro l
                    induction l with
                    | nil => intro K' acc h; exact ⟨acc, h⟩
                    | cons t ts iht =>
                      intro K' acc h
                      obtain ⟨cs, hcs⟩ := ih t _ h
                      exact iht K' _ hcs
                  split at h
                  · obtain ⟨b, hb⟩ := h; exact ⟨_, hb⟩
                  · obtain ⟨b, hb⟩ := h; exact ⟨_, hb⟩
                  · obtain ⟨b, hb⟩ := h; exact ⟨_, hb⟩
                  · split at h
                    · obtain ⟨b, hb⟩ := h; exact ⟨_, hb⟩
                    · exact h.elim
                  · rename_i fs _
                    have e : ∀ (l : List Field), l.foldr (fun f k acc => shapeCells P n f.type fun cs => k (acc ++ cs)) K' = (l.map (·.type)).foldr (fun f k acc => shapeCells P n f fun cs => k (acc ++ cs)) K' := by
                      intro l; induction l with
                      | nil => rfl
                      | cons x xs ihx => simp only [List.foldr_cons, List.map_cons, ihx]
                    rw [e] at h
                    exact fold _ _ _ h
                  · rename_i m e0 _
                    have e : ∀ (l : List Nat), l.foldr (fun _ k acc => shapeCells P n e0 fun cs => k (acc ++ cs)) K' = (l.map (fun _ => e0)).foldr (fun f k acc => shapeCells P n f fun cs => k (acc ++ cs)) K' := by
                      intro l; induction l with
                      | nil => rfl
                      | cons x xs ihx => simp only [List.foldr_cons, List.map_cons, ihx]
                    rw [e] at h
                    exact fold _ _ _ h
                  · obtain ⟨b, hb⟩ := h; exact ⟨_, hb⟩
              intro ts
              induction ts with
              | nil => intro K' h; exact ⟨[], h⟩
              | cons t ts ih =>
                intro K' h
                simp only [shapeVs, shapeV] at h
                obtain ⟨cs, hcs⟩ := cells _ _ _ h
                cases hag : isAggT P t with
                | true =>
                  simp only [hag, cond_true] at hcs
                  obtain ⟨ss, hss⟩ := ih _ hcs
                  exact ⟨_, hss⟩
                | false =>
                  simp only [hag, cond_false] at hcs
                  split at hcs
                  · obtain ⟨ss, hss⟩ := ih _ hcs; exact ⟨_, hss⟩
                  · exact hcs.elim
            obtain ⟨ss', hss⟩ := key _ _ hsh
            obtain ⟨rfl, hK⟩ := hss
            cases dst with
            | none => exact ⟨st, ⟨h', ρ, F1⟩, hK⟩
            | some d =>
              simp only [] at hK
              obtain ⟨ρ'', F2, hk, hr2⟩ := bindTips_fits (T f) d w.heap.size ρr rs htip hdis F.bel.size rs 0 st ρ (fun k => by simp) F1 (fun id hl => by
                obtain ⟨⟨o, ho⟩, hn⟩ := hl
                exact .inl (ObOK.blk_lt (F.obj id o ho) hn))
              refine ⟨_, ⟨h', ρ'', F2.put (some d) (TRep.of_rep' (one_rep vr _ (by rw [ownedAll_length]; exact hlen) fun k v s hv hs => ?_))⟩, hK⟩
              rw [ownedAll_get] at hs
              cases hx : rs[k]? with
              | none => simp [hx] at hs
              | some x =>
                simp [hx] at hs
                subst hs
                refine (hret k v x hv hx).owned fun sz rows tok e1 e2 => ?_
                subst e1
                have := hr2 k sz rows tok hx e2
                simpa using this

/-- The block that an operation writes. -/
def tblk (a : Act) (o : Oper) : Option Nat :=
  match o.op with
  | .store _ x _ => match a.eval x with
    | .pointer (some ad) => some ad.block
    | _ => none
  | _ => none

/-- What comes of an operation that makes or writes memory, or calls. -/
def After (w0 : World) (h0 : Hp) (K : St → Prop) (o : Oper) (a : Act) (w : World) (a' : Act) (w' : World) : Prop :=
  Goes w0 h0 K a' w' ∧ (∃ u, a' = a.put o.dst u) ∧ w.heap.size ≤ w'.heap.size ∧ ∀ b, b < w.heap.size → tblk a o ≠ some b → w'.heap[b]? = w.heap[b]?

theorem loud_sound (F : FitsAt w0 h0 h ρ st a w) (T : FuncId → Bool) (o : Oper) (gv : List (Nat × Bool) → Operand → SV) (hsv : ∀ x, Rep h ρ (a.eval x) (gv [] x)) (K : St → Prop)
    (hx : loudC P T o gv st K) (Q : Exit → Act → World → Prop) : o.wp P a w (After w0 h0 K o a w) Q := by
  unfold loudC at hx
  split at hx
  · rename_i t heq
    split at hx
    · rename_i z d hz hd
      obtain ⟨v, hv, r, hb⟩ := zeroSV_sound (h := h) (ρ := ρ) hz
      obtain ⟨hl, hc⟩ := rep_cells r hb
      have F1 := (F.newBox (16 * d) v.cells t (cellsOf z) hl hc).put o.dst (TRep.of_rep' (v := .pointer (some ⟨w.heap.size, 0, none⟩)) (s := .ptr (16 * d) 0) (by
        have := Rep.ptr (h := h) (ρ := upd ρ (16 * d) ⟨w.heap.size, 0, 0, 0, 0, false⟩) (16 * d) 0
        rwa [upd_same] at this))
      have hrun : (execOp a.eval o).run P w = .ok (.value (.pointer (some ⟨w.heap.size, 0, none⟩))) (w.alloc (.cells v.cells t)) := by
        simp [execOp, heq, Instr.alloc, hv, newVar, newRow]
      unfold Oper.wp
      rw [hrun]
      exact ⟨⟨_, ⟨h, _, F1⟩, hx⟩, ⟨_, rfl⟩, by show _ ≤ (w.heap.push _).size; simp, fun b hb _ => Below.heap_alloc w _ b hb⟩
    · exact hx.elim
  · rename_i t x heq
    split at hx
    · rename_i d hd
      cases hb : boxL (cellsOf (gv [] x)) with
      | false => simp [hb] at hx
      | true =>
        simp only [hb, cond_true] at hx
        obtain ⟨hl, hc⟩ := rep_cells (hsv x) hb
        have F1 := (F.newBox (16 * d) (a.eval x).cells t (cellsOf (gv [] x)) hl hc).put o.dst (TRep.of_rep' (v := .pointer (some ⟨w.heap.size, 0, none⟩)) (s := .ptr (16 * d) 0) (by
          have := Rep.ptr (h := h) (ρ := upd ρ (16 * d) ⟨w.heap.size, 0, 0, 0, 0, false⟩) (16 * d) 0
          rwa [upd_same] at this))
        have hrun : (execOp a.eval o).run P w = .ok (.value (.pointer (some ⟨w.heap.size, 0, none⟩))) (w.alloc (.cells (a.eval x).cells t)) := by
          simp [execOp, heq, Instr.box, newVar, newRow]
        unfold Oper.wp
        rw [hrun]
        exact ⟨⟨_, ⟨h, _, F1⟩, hx⟩, ⟨_, rfl⟩, by show _ ≤ (w.heap.push _).size; simp, fun b hb _ => Below.heap_alloc w _ b hb⟩
    · exact hx.elim
  · rename_i t x y heq
    split at hx
    · rename_i id off n hxs hz
      split at hx
      · rename_i cs ho
        cases hb : (boxL (cellsOf (gv [] y)) && Nat.beq (lenN (cellsOf (gv [] y))) n) with
        | false => simp [hb] at hx
        | true =>
          simp only [hb, cond_true] at hx
          simp only [Bool.and_eq_true] at hb
          split at hx
          · rename_i cs' hsp
            have hrx := hsv x
            rw [hxs] at hrx
            have hpx := hrx.ptr_inv
            obtain ⟨w', hrun, F1, hsz, hoth⟩ := store_sound F ho hz (hsv y) hb.1 (Nat.eq_of_beq_eq_true hb.2) hsp
            have hrun' : (execOp a.eval o).run P w = .ok .skip w' := by
              simp [execOp, heq, hpx, hrun]
            unfold Oper.wp
            rw [hrun']
            exact ⟨⟨_, ⟨h, ρ, F1.put o.dst (TRep.rep_unk _ _)⟩, hx⟩, ⟨_, rfl⟩, hsz, fun b _ hne => hoth b (fun e => hne (by simp [tblk, heq, hpx, e]))⟩
          · exact hx.elim
      · exact hx.elim
    · exact hx.elim
  · rename_i f args at_ heq
    obtain ⟨h1, h2⟩ := call_sound F T f (args.toList.map (gv [])) (args.map a.eval) o.dst K (by simp) (fun i v s hv hs => by
      simp at hv hs
      obtain ⟨x, hx1, rfl⟩ := hv
      obtain ⟨x', hx2, rfl⟩ := hs
      rw [hx1] at hx2; cases hx2
      exact hsv x) hx
    have hrun : (execOp a.eval o).run P w = .ok (.enter f (args.map a.eval)) w := by
      simp [execOp, heq, resolve, Act.eval, Deferred.ofValue, invoke, h1]
    unfold Oper.wp
    rw [hrun]
    refine Calls.mono h2 fun e w'' he => ?_
    obtain ⟨v, rfl, hg, hsz, hbl⟩ := he
    exact ⟨hg, ⟨_, rfl⟩, hsz, fun b hb _ => hbl b hb⟩
  · exact hx.elim

theorem still_sound (_F : FitsAt w0 h0 h ρ st a w) (o : Oper) (gv : List (Nat × Bool) → Operand → SV)
    (_hgv : ∀ ex x, (∀ g ∈ ex, a.tmps.getD g.1 undef = .bool g.2) → Rep h ρ (a.eval x) (gv ex x)) (k : SV → Prop) (hx : stillC P gv st.objs o.op k) :
    ∃ v s, (∀ w', SameB (fblk a o) w w' → (execOp a.eval o).run P w' = .ok (.value v) w') ∧ Rep h ρ v s ∧ k s := hx.elim

/-- An operation that is not loud: its value is the same in every world in which what it reads is. -/
theorem calm_sound (F : FitsAt w0 h0 h ρ st a w) (T : FuncId → Bool) (o : Oper) (gv : List (Nat × Bool) → Operand → SV)
    (hgv : ∀ ex x, (∀ g ∈ ex, a.tmps.getD g.1 undef = .bool g.2) → Rep h ρ (a.eval x) (gv ex x)) (K : St → Prop) (hl : loud P o.op = false)
    (hx : exec P T o gv st K) : ∃ v, (∀ w', SameB (fblk a o) w w' → (execOp a.eval o).run P w' = .ok (.value v) w') ∧ Goes w0 h0 K (a.put o.dst v) w := by
  unfold exec at hx
  simp only [hl, cond_false] at hx
  split at hx
  · rename_i s hs
    obtain ⟨v, hrun, r⟩ := quiet_sound F o gv hgv hs
    exact ⟨v, hrun, _, ⟨h, ρ, F.put o.dst (TRep.of_rep' r)⟩, hx⟩
  · obtain ⟨v, s, hrun, r, hk⟩ := still_sound F o gv hgv _ hx
    exact ⟨v, hrun, _, ⟨h, ρ, F.put o.dst (TRep.of_rep' r)⟩, hk⟩

theorem exec_sound (F : FitsAt w0 h0 h ρ st a w) (T : FuncId → Bool) (o : Oper) (gv : List (Nat × Bool) → Operand → SV)
    (hgv : ∀ ex x, (∀ g ∈ ex, a.tmps.getD g.1 undef = .bool g.2) → Rep h ρ (a.eval x) (gv ex x)) (K : St → Prop)
    (hx : exec P T o gv st K) (Q : Exit → Act → World → Prop) : o.wp P a w (After w0 h0 K o a w) Q := by
  cases hl : loud P o.op with
  | true =>
    unfold exec at hx
    simp only [hl, cond_true] at hx
    exact loud_sound F T o gv (fun x => hgv [] x (by simp)) K hx Q
  | false =>
    obtain ⟨v, hrun, hg⟩ := calm_sound F T o gv hgv K hl hx
    unfold Oper.wp
    rw [hrun w (SameB.refl _ w)]
    exact ⟨hg, ⟨_, rfl⟩, Nat.le_refl _, fun _ _ _ => rfl⟩

theorem chain_holds (F : FitsAt w0 h0 h ρ st a w) : ∀ (n : Nat) (g : Nat × Bool), a.tmps.getD g.1 undef = .bool g.2 → ∀ g' ∈ chain st n g, a.tmps.getD g'.1 undef = .bool g'.2
  | 0, _, _ => by simp [chain]
  | n + 1, g, hg => by
    intro g' hm
    simp only [chain, List.mem_cons] at hm
    rcases hm with rfl | hm
    · exact hg
    · split at hm
      · rename_i t w' x hx
        rw [lget_eq] at hx
        cases hs : st.tmps[g.1]? with
        | none => simp [hs] at hx
        | some s =>
          simp [hs] at hx
          subst hx
          have r := F.tm g.1 _ hs
          rcases r with ⟨h1, _⟩ | ⟨_, h2⟩
          · exact chain_holds F n (t, w') h1 g' hm
          · rw [hg] at h2; simp [undef] at h2
      · simp at hm

theorem yielded_getD (ops : Array Oper) (tm : Array Value) (j t : Nat) (ht : (ops[j]?).bind (·.dst) = some t) (b : Bool) : (yielded ops tm j == some b) = true ↔ tm.getD t undef = .bool b := by
  unfold yielded
  simp only [ht, Option.bind_some]
  rw [Array.getD_eq_getD_getElem?]
  cases hx : tm[t]? with
  | none => simp [undef]
  | some v =>
    simp only [Option.getD_some]
    cases v <;> simp

theorem fixL_get (t : Nat) (b : Bool) : ∀ (cs : List SV) (i : Nat), (fixL t b cs)[i]? = (cs[i]?).map (fun s => match s with | .gd t' w v => (bif Nat.beq t t' then (bif w == b then v else .unk) else .gd t' w v) | s => s)
  | [], i => by simp [fixL]
  | c :: cs, 0 => by cases c <;> simp [fixL]
  | c :: cs, i + 1 => by
    have := fixL_get t b cs i
    cases c <;> simpa [fixL] using this

theorem fixL_length (t : Nat) (b : Bool) : ∀ (cs : List SV), (fixL t b cs).length = cs.length
  | [] => rfl
  | c :: cs => by cases c <;> simp [fixL, fixL_length t b cs]

/-- A guard's slot is known. -/
theorem FitsAt.fix (F : FitsAt w0 h0 h ρ st a w) (t : Nat) (b : Bool) (hb : a.tmps.getD t undef = .bool b) : FitsAt w0 h0 h ρ (st.fix t b) a w := by
  refine { F with size := ?_, tm := fun i s hs => ?_ }
  · simp [St.fix, lset_eq, fixL_length, F.size]
  · simp only [St.fix, lset_eq] at hs
    rw [List.getElem?_set] at hs
    by_cases hti : t = i
    · subst hti
      simp only [if_true] at hs
      split at hs
      · cases hs; rw [hb]; exact TRep.of_rep' (.pure _ _ (.val _))
      · cases hs
    · simp only [hti, if_false, fixL_get] at hs
      cases hx : st.tmps[i]? with
      | none => simp [hx] at hs
      | some x =>
        simp [hx] at hs
        have r := F.tm i x hx
        split at hs
        · rename_i t' w' v
          by_cases htt : t = t'
          · subst htt
            simp only [Nat.beq_refl, cond_true] at hs
            cases hwb : (w' == b) with
            | false => simp only [hwb, cond_false] at hs; subst hs; exact TRep.rep_unk _ _
            | true =>
              simp only [hwb, cond_true] at hs
              subst hs
              have : w' = b := by simpa using hwb
              subst this
              rcases r with ⟨_, r⟩ | ⟨hne, _⟩
              · exact TRep.of_rep' r
              · exact absurd hb hne
          · rw [beq_false htt] at hs; simp only [cond_false] at hs; subst hs; exact r
        · subst hs; exact r

/-- Whether a guarded operation is carried out. -/
theorem wanted_iff {ops : Array Oper} {o : Oper} {j t : Nat} {wj : Bool} (hg : o.guard = some (j, wj)) (hdst : (ops[j]?).bind (·.dst) = some t) :
    Region.wanted o (yielded ops a.tmps) = true ↔ a.tmps.getD t undef = .bool wj := by
  simp only [Region.wanted, hg]
  exact yielded_getD ops a.tmps j t hdst wj

theorem gdst_inv {ops : Array Oper} {j t : Nat} {wj wt : Bool} (h : gdst ops (some (j, wj)) = some (t, wt)) : (ops[j]?).bind (·.dst) = some t ∧ wj = wt := by
  unfold gdst at h
  simp only [] at h
  split at h
  · rename_i t' ht; simp at h; exact ⟨by rw [ht, h.1], h.2⟩
  · cases h

/-- What an operation comes to, whether it is carried out or not. -/
theorem aop_sound (F : FitsAt w0 h0 h ρ st a w) (T : FuncId → Bool) (ops : Array Oper) (o : Oper) (K : St → Prop) (hx : aop P T ops o st K) (Q : Exit → Act → World → Prop) :
    if Region.wanted o (yielded ops a.tmps) then o.wp P a w (After w0 h0 K o a w) Q else Goes w0 h0 K (a.put o.dst undef) w := by
  unfold aop at hx
  split at hx
  · rename_i hg
    simp only [Region.wanted, hg, if_true]
    exact exec_sound F T o _ (fun ex x hg => F.operand ex hg x) K hx Q
  · rename_i g hg
    split at hx
    · exact hx.elim
    · rename_i t wt hgd
      obtain ⟨j, wj⟩ := g
      obtain ⟨hdst, rfl⟩ := gdst_inv hgd
      have hw := wanted_iff (a := a) hg hdst
      split at hx
      · rename_i s hs
        cases hl : loud P o.op with
        | true => simp [hl] at hs
        | false =>
          simp only [hl, cond_false] at hs
          by_cases hwant : Region.wanted o (yielded ops a.tmps) = true
          · rw [if_pos hwant]
            have hb := hw.1 hwant
            obtain ⟨v, hrun, r⟩ := quiet_sound F o _ (fun ex x hge => F.operand (ex ++ chain st 4 (t, wj)) (fun g hm => by
              rcases List.mem_append.1 hm with hm | hm
              · exact hge g hm
              · exact chain_holds F 4 (t, wj) hb g hm) x) hs
            unfold Oper.wp
            rw [hrun w (SameB.refl _ w)]
            exact ⟨⟨_, ⟨h, ρ, F.put o.dst (s := .gd t wj s) (.inl ⟨hb, r⟩)⟩, hx⟩, ⟨_, rfl⟩, Nat.le_refl _, fun _ _ _ => rfl⟩
          · rw [if_neg hwant]
            exact ⟨_, ⟨h, ρ, F.put o.dst (s := .gd t wj s) (.inr ⟨fun e => hwant (hw.2 e), rfl⟩)⟩, hx⟩
      · split at hx
        · rename_i b hb
          have hv : a.tmps.getD t undef = .bool b := by
            have := F.slot [] (by simp) t
            rw [hb] at this
            exact this.val_inv
          by_cases hwant : Region.wanted o (yielded ops a.tmps) = true
          · rw [if_pos hwant]
            have e := hw.1 hwant
            rw [hv] at e
            have e' : b = wj := by injection e
            have F1 := F.fix t wj (by rw [hv, e'])
            refine exec_sound F1 T o _ (fun ex x hge => F1.operand ex hge x) K ?_ Q
            subst e'
            cases b <;> exact hx
          · rw [if_neg hwant]
            have e' : b = !wj := by
              cases b <;> cases wj <;> first | rfl | exact absurd (hw.2 hv) hwant
            have F1 := F.fix t (!wj) (by rw [hv, e'])
            refine ⟨_, ⟨h, ρ, F1.put o.dst (TRep.rep_unk _ _)⟩, ?_⟩
            subst e'
            cases wj <;> exact hx
        · exact hx.elim

/-- An operation that is not loud, whether it is carried out or not: its value stays. -/
theorem aop_calm (F : FitsAt w0 h0 h ρ st a w) (T : FuncId → Bool) (ops : Array Oper) (o : Oper) (K : St → Prop) (hl : loud P o.op = false) (hx : aop P T ops o st K) :
    ∃ v, (Region.wanted o (yielded ops a.tmps) = true → ∀ w', SameB (fblk a o) w w' → (execOp a.eval o).run P w' = .ok (.value v) w') ∧
      (Region.wanted o (yielded ops a.tmps) = false → v = undef) ∧ Goes w0 h0 K (a.put o.dst v) w := by
  unfold aop at hx
  split at hx
  · rename_i hg
    obtain ⟨v, hrun, hgo⟩ := calm_sound F T o _ (fun ex x hg => F.operand ex hg x) K hl hx
    exact ⟨v, fun _ => hrun, fun e => by simp [Region.wanted, hg] at e, hgo⟩
  · rename_i g hg
    split at hx
    · exact hx.elim
    · rename_i t wt hgd
      obtain ⟨j, wj⟩ := g
      obtain ⟨hdst, rfl⟩ := gdst_inv hgd
      have hw := wanted_iff (a := a) hg hdst
      split at hx
      · rename_i s hs
        simp only [hl, cond_false] at hs
        by_cases hwant : Region.wanted o (yielded ops a.tmps) = true
        · have hb := hw.1 hwant
          obtain ⟨v, hrun, r⟩ := quiet_sound F o _ (fun ex x hge => F.operand (ex ++ chain st 4 (t, wj)) (fun g hm => by
            rcases List.mem_append.1 hm with hm | hm
            · exact hge g hm
            · exact chain_holds F 4 (t, wj) hb g hm) x) hs
          exact ⟨v, fun _ => hrun, fun e => by (rw [hwant] at e; cases e), _, ⟨h, ρ, F.put o.dst (s := .gd t wj s) (.inl ⟨hb, r⟩)⟩, hx⟩
        · exact ⟨undef, fun e => absurd e hwant, fun _ => rfl, _, ⟨h, ρ, F.put o.dst (s := .gd t wj s) (.inr ⟨fun e => hwant (hw.2 e), rfl⟩)⟩, hx⟩
      · split at hx
        · rename_i b hb
          have hv : a.tmps.getD t undef = .bool b := by
            have := F.slot [] (by simp) t
            rw [hb] at this
            exact this.val_inv
          by_cases hwant : Region.wanted o (yielded ops a.tmps) = true
          · have e := hw.1 hwant
            rw [hv] at e
            have e' : b = wj := by injection e
            have F1 := F.fix t wj (by rw [hv, e'])
            obtain ⟨v, hrun, hgo⟩ := calm_sound F1 T o _ (fun ex x hge => F1.operand ex hge x) K hl (by subst e'; cases b <;> exact hx)
            exact ⟨v, fun _ => hrun, fun e => by (rw [hwant] at e; cases e), hgo⟩
          · have e' : b = !wj := by
              cases b <;> cases wj <;> first | rfl | exact absurd (hw.2 hv) hwant
            have F1 := F.fix t (!wj) (by rw [hv, e'])
            refine ⟨undef, fun e => absurd e hwant, fun _ => rfl, _, ⟨h, ρ, F1.put o.dst (TRep.rep_unk _ _)⟩, ?_⟩
            subst e'
            cases wj <;> exact hx
        · exact hx.elim

end

section
variable {w0 : World} {h0 : Hp} {P : Program}

theorem vcOps_sound (T : FuncId → Bool) (ops : Array Oper) (Q : Exit → Act → World → Prop) (K : St → Prop) (hK : ∀ st a w, Fits w0 h0 st a w → K st → Q .normal a w) :
    ∀ (l : List Oper) (st : St) (a : Act) (w : World), Fits w0 h0 st a w → vcOps P T ops l st K → wpList P ops Q l a w
  | [], st, a, w, F, hv => hK st a w F hv
  | o :: rest, st, a, w, ⟨h, ρ, F⟩, hv => by
    have := aop_sound F T ops o _ hv Q
    simp only [wpList]
    split
    · rename_i hw
      rw [if_pos hw] at this
      exact .inl (Oper.wp_mono (fun a' w' ⟨⟨st', F', hk⟩, _⟩ => vcOps_sound T ops Q K hK rest st' a' w' F' hk) this)
    · rename_i hw
      rw [if_neg hw] at this
      obtain ⟨st', F', hk⟩ := this
      exact vcOps_sound T ops Q K hK rest st' _ w F' hk

end
end Go.Px

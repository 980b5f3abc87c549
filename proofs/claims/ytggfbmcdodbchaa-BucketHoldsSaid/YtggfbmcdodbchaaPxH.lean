/- The conditions are sound. -/
import Derived.Test.YtggfbmcdodbchaaPxG
import Derived.Tactics
namespace Go.Px
open Go.RowKit

section
variable {w0 : World} {h0 h : Hp} {ρ : Nat → Loc} {st : St} {a : Act} {w : World} {P : Program}

theorem Rep.not_gd {v : Value} {t : Nat} {b : Bool} {x : SV} (r : Rep h ρ v (.gd t b x)) : False := by
  cases r with
  | pure _ _ hp => cases hp

theorem TRep.of_rep' {tm : Array Value} {v : Value} {s : SV} (r : Rep h ρ v s) : TRep h ρ tm v s :=
  .of_rep (fun t w x e => by subst e; exact r.not_gd) r

theorem Rep.ptr_inv {v : Value} {id off : Nat} (r : Rep h ρ v (.ptr id off)) : v = .pointer (some ⟨(ρ id).blk, off, none⟩) := by
  cases r with
  | pure _ _ hp => cases hp
  | ptr => rfl

def Goes (w0 : World) (h0 : Hp) (K : St → Prop) (a : Act) (w : World) : Prop := ∃ st, Fits w0 h0 st a w ∧ K st

theorem call_sound (F : FitsAt w0 h0 h ρ st a w) (T : FuncId → Bool) (f : FuncId) (ss : List SV) (vs : Array Value) (dst : Option Nat) (K : St → Prop)
    (hl : vs.size = ss.length) (hr : ∀ (i : Nat) v s, vs[i]? = some v → ss[i]? = some s → Rep h ρ v s) (hc : callC P T f ss dst st K) :
    (callFunc f vs).run P w = .ok (.enter f vs) w ∧
    Calls P f vs w fun e w'' => ∃ v, e = .returned v ∧ Goes w0 h0 K (a.put dst v) w'' ∧ w.heap.size ≤ w''.heap.size ∧ ∀ b, b < w.heap.size → w''.heap[b]? = w.heap[b]? := by
  unfold callC at hc
  split at hc
  · exact hc.elim
  · rename_i fn hf
    split at hc
    · exact hc.elim
    · rename_i as has
      cases hb : (fn.body.isSome && !(fn.name == "runtime.NumGoroutine")) with
      | false => simp [hb] at hc
      | true =>
        simp only [hb, cond_true] at hc
        obtain ⟨Q, hfn, hq⟩ := hc
        simp only [Bool.and_eq_true, Bool.not_eq_true', beq_eq_false_iff_ne] at hb
        refine ⟨?_, ?_⟩
        · simp [callFunc, hf, hb.2]
          intro hnone
          simp [hnone] at hb
        · obtain ⟨hla, hga⟩ := pureArgs_sound (h := h) (ρ := ρ) _ _ _ has
          refine (hfn h w vs F.sub (by omega) (fun i v s hv hs => ?_)).mono ?_
          · obtain ⟨s0, hs0, hp⟩ := hga i s hs
            exact hp v (hr i v s0 hv hs0)
          · rintro e w'' ⟨vr, h', ρr, rs, rfl, hQ, hlen, hret, htip, hdis, hsub, hext, hbel⟩
            refine ⟨_, rfl, ?_, hbel.size, hbel.block⟩
            have hle : HLe h h' := fun b o v e => by rw [hext b (F.sub.lt e)]; exact e
            have F1 := F.grow hle hbel.block hext hsub (F.bel.trans (hbel.mono F.bel.size))
            have hsh := hq rs hQ
            -- the shape gives rs itself
            have key : ∀ (ts : List TypeId) (K' : List SV → Prop), shapeVs P ts K' → ∃ ss, K' ss := by
              have cells : ∀ (n : Nat) (t : TypeId) (K' : List SV → Prop), shapeCells P n t K' → ∃ cs, K' cs := by
                intro n
                induction n with
                | zero => intro t K' h; exact h.elim
                | succ n ih =>
                  intro t K' h
                  simp only [shapeCells] at h
                  have fold : ∀ (l : List TypeId) (K' : List SV → Prop) (acc : List SV), (l.foldr (fun f k acc => shapeCells P n f fun cs => k (acc ++ cs)) K') acc → ∃ cs, K' cs := by
                    intro l
                    induction l with
                    | nil => intro K' acc h; exact ⟨acc, h⟩
                    | cons t ts iht =>
                      intro K' acc h
                      obtain ⟨cs, hcs⟩ := ih t _ h
                      exact iht K' _ hcs
                  split at h
                  · obtain ⟨b, hb⟩ := h; exact ⟨_, hb⟩
                  · obtain ⟨b, hb⟩ := h; exact ⟨_, hb⟩
                  · obtain ⟨b, hb⟩ := h; exact ⟨_, hb⟩
                  · split at h
                    · obtain ⟨b, hb⟩ := h; exact ⟨_, hb⟩
                    · exact h.elim
                  · rename_i fs _
                    have e : ∀ (l : List Field), l.foldr (fun f k acc => shapeCells P n f.type fun cs => k (acc ++ cs)) K' = (l.map (·.type)).foldr (fun f k acc => shapeCells P n f fun cs => k (acc ++ cs)) K' := by
                      intro l; induction l with
                      | nil => rfl
                      | cons x xs ihx => simp only [List.foldr_cons, List.map_cons, ihx]
                    rw [e] at h
                    exact fold _ _ _ h
                  · rename_i m e0 _
                    have e : ∀ (l : List Nat), l.foldr (fun _ k acc => shapeCells P n e0 fun cs => k (acc ++ cs)) K' = (l.map (fun _ => e0)).foldr (fun f k acc => shapeCells P n f fun cs => k (acc ++ cs)) K' := by
                      intro l; induction l with
                      | nil => rfl
                      | cons x xs ihx => simp only [List.foldr_cons, List.map_cons, ihx]
                    rw [e] at h
                    exact fold _ _ _ h
                  · obtain ⟨b, hb⟩ := h; exact ⟨_, hb⟩
              intro ts
              induction ts with
              | nil => intro K' h; exact ⟨[], h⟩
              | cons t ts ih =>
                intro K' h
                simp only [shapeVs, shapeV] at h
                obtain ⟨cs, hcs⟩ := cells _ _ _ h
                cases hag : isAggT P t with
                | true =>
                  simp only [hag, cond_true] at hcs
                  obtain ⟨ss, hss⟩ := ih _ hcs
                  exact ⟨_, hss⟩
                | false =>
                  simp only [hag, cond_false] at hcs
                  split at hcs
                  · obtain ⟨ss, hss⟩ := ih _ hcs; exact ⟨_, hss⟩
                  · exact hcs.elim
            obtain ⟨ss', hss⟩ := key _ _ hsh
            obtain ⟨rfl, hK⟩ := hss
            cases dst with
            | none => exact ⟨st, ⟨h', ρ, F1⟩, hK⟩
            | some d =>
              simp only [] at hK
              obtain ⟨ρ'', F2, hk, hr2⟩ := bindTips_fits (T f) d w.heap.size ρr rs htip hdis F.bel.size rs 0 st ρ (fun k => by simp) F1 (fun id hl => by
                obtain ⟨⟨o, ho⟩, hn⟩ := hl
                exact .inl (ObOK.blk_lt (F.obj id o ho) hn))
              refine ⟨_, ⟨h', ρ'', F2.put (some d) (TRep.of_rep' (one_rep vr _ (by rw [ownedAll_length]; exact hlen) fun k v s hv hs => ?_))⟩, hK⟩
              rw [ownedAll_get] at hs
              cases hx : rs[k]? with
              | none => simp [hx] at hs
              | some x =>
                simp [hx] at hs
                subst hs
                refine (hret k v x hv hx).owned fun sz rows tok e1 e2 => ?_
                subst e1
                have := hr2 k sz rows tok hx e2
                simpa using this

/-- The block that an operation writes. -/
def tblk (a : Act) (o : Oper) : Option Nat :=
  match o.op with
  | .store _ x _ => match a.eval x with
    | .pointer (some ad) => some ad.block
    | _ => none
  | _ => none

/-- What comes of an operation that makes or writes memory, or calls. -/
def After (w0 : World) (h0 : Hp) (K : St → Prop) (o : Oper) (a : Act) (w : World) (a' : Act) (w' : World) : Prop :=
  Goes w0 h0 K a' w' ∧ (∃ u, a' = a.put o.dst u) ∧ w.heap.size ≤ w'.heap.size ∧ ∀ b, b < w.heap.size → tblk a o ≠ some b → w'.heap[b]? = w.heap[b]?

theorem loud_sound (F : FitsAt w0 h0 h ρ st a w) (T : FuncId → Bool) (o : Oper) (gv : List (Nat × Bool) → Operand → SV) (hsv : ∀ x, Rep h ρ (a.eval x) (gv [] x)) (K : St → Prop)
    (hx : loudC P T o gv st K) (Q : Exit → Act → World → Prop) : o.wp P a w (After w0 h0 K o a w) Q := by
  unfold loudC at hx
  split at hx
  · rename_i t heq
    split at hx
    · rename_i z d hz hd
      obtain ⟨v, hv, r, hb⟩ := zeroSV_sound (h := h) (ρ := ρ) hz
      obtain ⟨hl, hc⟩ := rep_cells r hb
      have F1 := (F.newBox (16 * d) v.cells t (cellsOf z) hl hc).put o.dst (TRep.of_rep' (v := .pointer (some ⟨w.heap.size, 0, none⟩)) (s := .ptr (16 * d) 0) (by
        have := Rep.ptr (h := h) (ρ := upd ρ (16 * d) ⟨w.heap.size, 0, 0, 0, 0, false⟩) (16 * d) 0
        rwa [upd_same] at this))
      have hrun : (execOp a.eval o).run P w = .ok (.value (.pointer (some ⟨w.heap.size, 0, none⟩))) (w.alloc (.cells v.cells t)) := by
        simp [execOp, heq, Instr.alloc, hv, newVar, newRow]
      unfold Oper.wp
      rw [hrun]
      exact ⟨⟨_, ⟨h, _, F1⟩, hx⟩, ⟨_, rfl⟩, by show _ ≤ (w.heap.push _).size; simp, fun b hb _ => Below.heap_alloc w _ b hb⟩
    · exact hx.elim
  · rename_i t x heq
    split at hx
    · rename_i d hd
      cases hb : boxL (cellsOf (gv [] x)) with
      | false => simp [hb] at hx
      | true =>
        simp only [hb, cond_true] at hx
        obtain ⟨hl, hc⟩ := rep_cells (hsv x) hb
        have F1 := (F.newBox (16 * d) (a.eval x).cells t (cellsOf (gv [] x)) hl hc).put o.dst (TRep.of_rep' (v := .pointer (some ⟨w.heap.size, 0, none⟩)) (s := .ptr (16 * d) 0) (by
          have := Rep.ptr (h := h) (ρ := upd ρ (16 * d) ⟨w.heap.size, 0, 0, 0, 0, false⟩) (16 * d) 0
          rwa [upd_same] at this))
        have hrun : (execOp a.eval o).run P w = .ok (.value (.pointer (some ⟨w.heap.size, 0, none⟩))) (w.alloc (.cells (a.eval x).cells t)) := by
          simp [execOp, heq, Instr.box, newVar, newRow]
        unfold Oper.wp
        rw [hrun]
        exact ⟨⟨_, ⟨h, _, F1⟩, hx⟩, ⟨_, rfl⟩, by show _ ≤ (w.heap.push _).size; simp, fun b hb _ => Below.heap_alloc w _ b hb⟩
    · exact hx.elim
  · rename_i t x y heq
    split at hx
    · rename_i id off n hxs hz
      split at hx
      · rename_i cs ho
        cases hb : (boxL (cellsOf (gv [] y)) && Nat.beq (lenN (cellsOf (gv [] y))) n) with
        | false => simp [hb] at hx
        | true =>
          simp only [hb, cond_true] at hx
          simp only [Bool.and_eq_true] at hb
          split at hx
          · rename_i cs' hsp
            have hrx := hsv x
            rw [hxs] at hrx
            have hpx := hrx.ptr_inv
            obtain ⟨w', hrun, F1, hsz, hoth⟩ := store_sound F ho hz (hsv y) hb.1 (Nat.eq_of_beq_eq_true hb.2) hsp
            have hrun' : (execOp a.eval o).run P w = .ok .skip w' := by
              simp [execOp, heq, hpx, hrun]
            unfold Oper.wp
            rw [hrun']
            exact ⟨⟨_, ⟨h, ρ, F1.put o.dst (TRep.rep_unk _ _)⟩, hx⟩, ⟨_, rfl⟩, hsz, fun b _ hne => hoth b (fun e => hne (by simp [tblk, heq, hpx, e]))⟩
          · exact hx.elim
      · exact hx.elim
    · exact hx.elim
  · rename_i f args at_ heq
    obtain ⟨h1, h2⟩ := call_sound F T f (args.toList.map (gv [])) (args.map a.eval) o.dst K (by simp) (fun i v s hv hs => by
      simp at hv hs
      obtain ⟨x, hx1, rfl⟩ := hv
      obtain ⟨x', hx2, rfl⟩ := hs
      rw [hx1] at hx2; cases hx2
      exact hsv x) hx
    have hrun : (execOp a.eval o).run P w = .ok (.enter f (args.map a.eval)) w := by
      simp [execOp, heq, resolve, Act.eval, Deferred.ofValue, invoke, h1]
    unfold Oper.wp
    rw [hrun]
    refine Calls.mono h2 fun e w'' he => ?_
    obtain ⟨v, rfl, hg, hsz, hbl⟩ := he
    exact ⟨hg, ⟨_, rfl⟩, hsz, fun b hb _ => hbl b hb⟩
  · exact hx.elim

theorem caseN_get {n : Int} {K : Nat → Prop} : ∀ (m j : Nat), caseN n K m j → ∀ i, j ≤ i → i < j + m → n = Int.ofNat i → K i
  | 0, j, _, i, h1, h2, _ => by omega
  | m + 1, j, h, i, h1, h2, e => by
    by_cases hij : i = j
    · subst hij; exact h.1 e
    · exact caseN_get m (j + 1) h.2 i (by omega) (by omega) e

theorem arrIx_get {m : Nat} {i : Operand} {n : Int} {K : Nat → Prop} (hx : arrIx m i n K) (hi : ∀ kd j, i = .const (.int kd (.ofNat j)) → n = Int.ofNat j) : ∃ j, j < m ∧ n = Int.ofNat j ∧ K j := by
  unfold arrIx at hx
  split at hx
  · rename_i kd j
    cases hb : Nat.blt j m with
    | false => simp [hb] at hx
    | true =>
      simp only [hb, cond_true] at hx
      exact ⟨j, Nat.le_of_ble_eq_true hb, hi kd j rfl, hx⟩
  · cases hb : Nat.ble m 16 with
    | false => simp [hb] at hx
    | true =>
      simp only [hb, cond_true] at hx
      obtain ⟨⟨h1, h2⟩, h3⟩ := hx
      refine ⟨n.toNat, by simp at h2; omega, by simp; omega, caseN_get m 0 h3 n.toNat (by omega) (by simp at h2; omega) (by simp; omega)⟩

theorem shape_get : ∀ (n : Nat) (t : TypeId) (K : List SV → Prop), shapeCells P n t K → ∃ cs, K cs := by
  intro n
  induction n with
  | zero => intro t K' h; exact h.elim
  | succ n ih =>
    intro t K' h
    simp only [shapeCells] at h
    have fold : ∀ (l : List TypeId) (K' : List SV → Prop) (acc : List SV), (l.foldr (fun f k acc => shapeCells P n f fun cs => k (acc ++ cs)) K') acc → ∃ cs, K' cs := by
      intro l
      induction l with
      | nil => intro K' acc h; exact ⟨acc, h⟩
      | cons t ts iht =>
        intro K' acc h
        obtain ⟨cs, hcs⟩ := ih t _ h
        exact iht K' _ hcs
    split at h
    · obtain ⟨b, hb⟩ := h; exact ⟨_, hb⟩
    · obtain ⟨b, hb⟩ := h; exact ⟨_, hb⟩
    · obtain ⟨b, hb⟩ := h; exact ⟨_, hb⟩
    · split at h
      · obtain ⟨b, hb⟩ := h; exact ⟨_, hb⟩
      · exact h.elim
    · rename_i fs _
      have e : ∀ (l : List Field), l.foldr (fun f k acc => shapeCells P n f.type fun cs => k (acc ++ cs)) K' = (l.map (·.type)).foldr (fun f k acc => shapeCells P n f fun cs => k (acc ++ cs)) K' := by
        intro l; induction l with
        | nil => rfl
        | cons x xs ihx => simp only [List.foldr_cons, List.map_cons, ihx]
      rw [e] at h
      exact fold _ _ _ h
    · rename_i m e0 _
      have e : ∀ (l : List Nat), l.foldr (fun _ k acc => shapeCells P n e0 fun cs => k (acc ++ cs)) K' = (l.map (fun _ => e0)).foldr (fun f k acc => shapeCells P n f fun cs => k (acc ++ cs)) K' := by
        intro l; induction l with
        | nil => rfl
        | cons x xs ihx => simp only [List.foldr_cons, List.map_cons, ihx]
      rw [e] at h
      exact fold _ _ _ h
    · obtain ⟨b, hb⟩ := h; exact ⟨_, hb⟩

theorem Rep.slice_pure {v : Value} {sz : Nat} {rows : List (List SV)} {tok : Nat} (r : Rep h ρ v (.slice sz rows tok)) : PRep h v (.slice sz rows 0) := by
  cases r with
  | pure _ _ hp => exact hp.tok0
  | tip0 id _ _ _ _ hp => exact hp.tok0
  | tip _ _ _ _ _ _ _ hp => exact hp

/-- A part of a slice. -/
theorem PRep.sub {p : Option Addr} {len cap sz : Nat} {rows : List (List SV)} (r : PRep h (.slice p len cap) (.slice sz rows 0)) {l hh m z : Nat} (hl : l ≤ hh) (hr : hh ≤ rows.length) (hm : hh ≤ m) (hc : m ≤ cap) (hz : z = sz ∨ sz = 0) (tok : Nat) (ht : tok ≤ 1) (h1 : tok = 1 → m = hh) :
    PRep h (.slice (if m = l then p else p.map (·.add (l * z))) (hh - l) (m - l)) (.slice sz ((rows.take hh).drop l) tok) := by
  by_cases he : hh = l
  · subst he
    have : (rows.take hh).drop hh = [] := by simp
    rw [this, Nat.sub_self]
    refine .empty _ _ _ tok ht (fun e => by have := h1 e; omega) (fun e => ?_)
    generalize hv : Value.slice p len cap = v at r
    cases r with
    | empty p' cap' _ _ _ _ hn =>
      cases hv
      split at e
      · omega
      · simp at e; have := hn e; omega
    | slice b off cap' _ _ _ vs _ _ _ _ _ _ _ =>
      cases hv
      split at e <;> simp at e
  · generalize hv : Value.slice p len cap = v at r
    cases r with
    | empty => cases hv; simp at hr; omega
    | slice b off cap' _ _ _ vs hpos hz' hh' hr' _ _ hle =>
      cases hv
      have hml : ¬ m = l := by omega
      simp only [hml, if_false, Option.map_some, add_mk]
      have hz2 : z = sz := by rcases hz with h | h; exact h; omega
      subst hz2
      have hlen : ((rows.take hh).drop l).length = hh - l := by simp; omega
      rw [← hlen]
      have hget : ∀ i r, ((rows.take hh).drop l)[i]? = some r → rows[l + i]? = some r := by
        intro i r e
        rw [List.getElem?_drop, List.getElem?_take] at e
        split at e
        · exact e
        · cases e
      refine .slice b (off + l * z) (m - l) z _ tok (fun i j => vs (l + i) j) hpos (fun i r e => hz' _ r (hget i r e)) (fun i r j c e1 e2 => ?_) (fun i r j c e1 e2 => hr' _ r j c (hget i r e1) e2) ht (fun e => by have := h1 e; omega) (by omega)
      have := hh' (l + i) r j c (hget i r e1) e2
      rwa [Nat.add_mul, ← Nat.add_assoc] at this

theorem bounds_run {gv : List (Nat × Bool) → Operand → SV} {w' : World} (hsv : ∀ x, Rep h ρ (a.eval x) (gv [] x)) (isS : Bool) (len cap : Nat) {lo hi : Option Operand} {l h' : Int}
    (hl : bndOf gv 0 lo = some l) (hh : bndOf gv (Int.ofNat len) hi = some h') (h0 : 0 ≤ l) (h1 : l ≤ h') (h2 : h' ≤ (len : Int)) (h3 : h' ≤ (cap : Int)) :
    (Instr.sliceBounds isS len cap (lo.map a.eval) (hi.map a.eval) none).run P w' = .ok (l.toNat, h'.toNat, cap) w' := by
  have key : ∀ x n, bndOf gv n (some x) = some l → ∃ kd, a.eval x = .int kd l := by
    intro x n e
    simp only [bndOf] at e
    split at e
    · rename_i kd n' hx
      cases e
      have := hsv x; rw [hx] at this
      exact ⟨kd, this.val_inv⟩
    · cases e
  have key' : ∀ x n, bndOf gv n (some x) = some h' → ∃ kd, a.eval x = .int kd h' := by
    intro x n e
    simp only [bndOf] at e
    split at e
    · rename_i kd n' hx
      cases e
      have := hsv x; rw [hx] at this
      exact ⟨kd, this.val_inv⟩
    · cases e
  have hlt : l ≤ (h'.toNat : Int) := by omega
  cases lo with
  | none =>
    simp [bndOf] at hl
    subst hl
    cases hi with
    | none =>
      simp [bndOf] at hh
      subst hh
      simp [Instr.sliceBounds]
    | some y =>
      obtain ⟨kd, hy⟩ := key' y _ hh
      have : (0 : Int) ≤ h' ∧ h' ≤ (cap : Int) := ⟨by omega, h3⟩
      simp [Instr.sliceBounds, Instr.sliceBound, hy, asIntOf, this]
  | some x =>
    obtain ⟨kd, hx⟩ := key x _ hl
    cases hi with
    | none =>
      simp [bndOf] at hh
      subst hh
      have : (0 : Int) ≤ l ∧ l ≤ (len : Int) := ⟨h0, h1⟩
      simp [Instr.sliceBounds, Instr.sliceBound, hx, asIntOf, this]
    | some y =>
      obtain ⟨kd', hy⟩ := key' y _ hh
      have g1 : (0 : Int) ≤ h' ∧ h' ≤ (cap : Int) := ⟨by omega, h3⟩
      have g2 : (0 : Int) ≤ l ∧ l ≤ max h' 0 := ⟨h0, by omega⟩
      simp [Instr.sliceBounds, Instr.sliceBound, hx, hy, asIntOf, g1, g2]

theorem bounds_run3 {gv : List (Nat × Bool) → Operand → SV} {w' : World} (hsv : ∀ x, Rep h ρ (a.eval x) (gv [] x)) (len cap : Nat) {lo : Option Operand} {hi m : Operand} {kd : IntKind} {l h' : Int}
    (hl : bndOf gv 0 lo = some l) (hh : bndOf gv (Int.ofNat len) (some hi) = some h') (hm : a.eval m = .int kd h') (h0 : 0 ≤ l) (h1 : l ≤ h') (h3 : h' ≤ (cap : Int)) :
    (Instr.sliceBounds true len cap (lo.map a.eval) (some (a.eval hi)) (some (a.eval m))).run P w' = .ok (l.toNat, h'.toNat, h'.toNat) w' := by
  have hhi : ∃ kd, a.eval hi = .int kd h' := by
    simp only [bndOf] at hh
    split at hh
    · rename_i kd n' hx
      cases hh
      have := hsv hi; rw [hx] at this
      exact ⟨kd, this.val_inv⟩
    · cases hh
  obtain ⟨kd2, hhi⟩ := hhi
  have g1 : (0 : Int) ≤ h' ∧ h' ≤ (cap : Int) := ⟨by omega, h3⟩
  have g3 : (0 : Int) ≤ h' ∧ h' ≤ max h' 0 := ⟨by omega, by omega⟩
  cases lo with
  | none =>
    simp [bndOf] at hl
    subst hl
    simp [Instr.sliceBounds, Instr.sliceBound, hhi, hm, asIntOf, g1, g3]
  | some x =>
    have hx : ∃ kd, a.eval x = .int kd l := by
      simp only [bndOf] at hl
      split at hl
      · rename_i kd n' hx
        cases hl
        have := hsv x; rw [hx] at this
        exact ⟨kd, this.val_inv⟩
      · cases hl
    obtain ⟨kd3, hx⟩ := hx
    have g2 : (0 : Int) ≤ l ∧ l ≤ max h' 0 := ⟨h0, by omega⟩
    simp [Instr.sliceBounds, Instr.sliceBound, hhi, hm, hx, asIntOf, g1, g2, g3]

theorem still_sound (o : Oper) (gv : List (Nat × Bool) → Operand → SV) (hsv : ∀ x, Rep h ρ (a.eval x) (gv [] x)) (k : SV → Prop) (hx : stillC P gv o.op k) :
    ∃ v s, (∀ w' : World, (execOp a.eval o).run P w' = .ok (.value v) w') ∧ Rep h ρ v s ∧ k s := by
  have hconst : ∀ (i : Operand) kd' n, gv [] i = .val (.int kd' n) → ∀ kd j, i = .const (.int kd (.ofNat j)) → n = Int.ofNat j := by
    intro i kd' n hi kd j e
    subst e
    have := hsv (.const (.int kd (.ofNat j)))
    rw [hi] at this
    have := this.val_inv
    simp [Act.eval] at this
    exact this.2.symm
  unfold stillC at hx
  split at hx
  · rename_i t x i heq
    split at hx
    · rename_i e sz rows tok kd n hu hxs his
      have h1 := hsv x; rw [hxs] at h1
      have h2 := hsv i; rw [his] at h2
      split at hx
      · rename_i z hz
        cases hb : (Nat.beq z sz && Nat.blt 0 z) with
        | false => simp [hb] at hx
        | true =>
          simp only [hb, cond_true] at hx
          simp only [Bool.and_eq_true] at hb
          have hzs : z = sz := Nat.eq_of_beq_eq_true hb.1
          subst hzs
          obtain ⟨⟨hn0, hn1⟩, hsh⟩ := hx
          obtain ⟨cs, hcs, hk⟩ := shape_get _ _ _ hsh
          simp only [rlen] at hn1
          have hlt : n.toNat < rows.length := by simp at hn1; omega
          have hrow : rows[n.toNat]? = some cs := by
            rw [← hcs, rget, List.getD_eq_getElem?_getD, List.getElem?_eq_getElem hlt]; rfl
          have hp := h1.slice_pure
          generalize hv : a.eval x = v at hp
          cases hp with
          | empty => simp at hlt
          | slice b off cap _ _ _ vs hpos hz' hh hr _ _ hle =>
            refine ⟨.pointer (some ⟨b, off + n.toNat * z, none⟩), .ref 0 cs, fun w' => ?_, ?_, hk⟩
            · have hcond : 0 ≤ n ∧ n < (rows.length : Int) := ⟨hn0, by simpa using hn1⟩
              simp [execOp, heq, hv, h2.val_inv, Instr.indexAt, asIntOf, run_underlying hu, run_sizeOf' w' hz, hcond, add_mk]
            · have := PRep.ref (h := h) b (off + n.toNat * z) 0 cs (fun j => vs n.toNat j) (fun j c e => hh _ cs j c hrow e) (fun j c e => hr _ cs j c hrow e)
              exact .pure _ _ this
      · exact hx.elim
    · rename_i m e id off kd n hu hxs his
      have h1 := hsv x; rw [hxs] at h1
      have h2 := hsv i; rw [his] at h2
      split at hx
      · rename_i z hz
        obtain ⟨j, hj, hnj, hk⟩ := arrIx_get hx (hconst i kd n his)
        subst hnj
        refine ⟨.pointer (some ⟨(ρ id).blk, off + j * z, none⟩), _, fun w' => ?_, .ptr id _, hk⟩
        have hc : (0 : Int) ≤ Int.ofNat j ∧ Int.ofNat j < (m : Int) := ⟨by simp, by simp; omega⟩
        simp only [Int.ofNat_eq_natCast] at hc
        simp [execOp, heq, h1.ptr_inv, h2.val_inv, Instr.indexAt, asIntOf, run_underlying hu, run_sizeOf' w' hz, Instr.sureAddr, hj, add_mk]
      · exact hx.elim
    · rename_i m e off cs kd n hu hxs his
      have h1 := hsv x; rw [hxs] at h1
      have h2 := hsv i; rw [his] at h2
      split at hx
      · rename_i z hz
        obtain ⟨j, hj, hnj, hk⟩ := arrIx_get hx (hconst i kd n his)
        subst hnj
        generalize hv : a.eval x = v at h1
        cases h1 with
        | pure _ _ hp =>
          cases hp with
          | ref b base _ _ vs hh hr =>
            refine ⟨.pointer (some ⟨b, base + (off + j * z), none⟩), _, fun w' => ?_, .pure _ _ (.ref b base _ cs vs hh hr), hk⟩
            simp [execOp, heq, hv, h2.val_inv, Instr.indexAt, asIntOf, run_underlying hu, run_sizeOf' w' hz, Instr.sureAddr, hj, add_mk, Nat.add_assoc]
      · exact hx.elim
    · exact hx.elim
  · rename_i t x i heq
    split at hx
    · rename_i s kd n hu hxs his
      have h1 := hsv x; rw [hxs] at h1
      have h2 := hsv i; rw [his] at h2
      obtain ⟨⟨hn0, hn1⟩, hk⟩ := hx
      simp only [slen] at hn1
      have hlt : n.toNat < s.size := by simp at hn1; omega
      refine ⟨.int .u8 (sbyte s n), _, fun w' => ?_, .pure _ _ (.val _), hk⟩
      simp [execOp, heq, h1.val_inv, h2.val_inv, Instr.index, asIntOf, run_underlying hu, hn0, hlt, sbyte]
      rfl
    · rename_i m e cs kd n hu hxs his
      have h1 := hsv x; rw [hxs] at h1
      have h2 := hsv i; rw [his] at h2
      split at hx
      · rename_i z hz
        obtain ⟨j, hj, hnj, hk⟩ := arrIx_get hx (hconst i kd n his)
        subst hnj
        split at hk
        · rename_i s hs
          obtain ⟨vs, hv, hl, hc⟩ := h1.agg_inv'
          obtain ⟨u, hu', r⟩ := part_sound (P := P) hl hc hs
          refine ⟨u, s, fun w' => ?_, r, hk⟩
          simp [execOp, heq, hv, h2.val_inv, Instr.index, asIntOf, run_underlying hu, run_sizeOf' w' hz, hj, hu' w']
        · exact hk.elim
      · exact hx.elim
    · exact hx.elim
  · rename_i op t x y t' heq
    split at hx
    · rename_i kd m kd' n hxs hys
      have h1 := hsv x; rw [hxs] at h1
      have h2 := hsv y; rw [hys] at h2
      split at hx
      · by_cases hk : kd = kd'
        · subst hk
          simp at hx
          exact ⟨.int kd (wquo kd m n), _, fun w' => by simp [execOp, heq, h1.val_inv, h2.val_inv, eqGuard_int, binOp, Op.intDiv, hx.1, wquo], .pure _ _ (.val _), hx.2⟩
        · simp [hk] at hx
      · by_cases hk : kd = kd'
        · subst hk
          simp at hx
          exact ⟨.int kd (wrem m n), _, fun w' => by simp [execOp, heq, h1.val_inv, h2.val_inv, eqGuard_int, binOp, Op.intDiv, hx.1, wrem], .pure _ _ (.val _), hx.2⟩
        · simp [hk] at hx
      · have hn : ¬ n < 0 := by omega
        exact ⟨.int kd (wshl kd m n), _, fun w' => by simp [execOp, heq, h1.val_inv, h2.val_inv, eqGuard_int, binOp, Op.shift, hn, wshl], .pure _ _ (.val _), hx.2⟩
      · have hn : ¬ n < 0 := by omega
        exact ⟨.int kd (wshr kd m n), _, fun w' => by simp [execOp, heq, h1.val_inv, h2.val_inv, eqGuard_int, binOp, Op.shift, hn, wshr], .pure _ _ (.val _), hx.2⟩
      · exact hx.elim
    · rename_i m n hxs hys
      have h1 := hsv x; rw [hxs] at h1
      have h2 := hsv y; rw [hys] at h2
      split at hx
      · refine ⟨.string (scat m n), _, fun w' => ?_, .pure _ _ (.val _), hx.2⟩
        have hle : (m.size : Int) + (n.size : Int) ≤ 9223372036854775807 := by
          have := hx.1
          simpa only [slen, Int.ofNat_eq_natCast] using this
        simp [execOp, heq, h1.val_inv, h2.val_inv, eqGuard_str, binOp, Op.stringOp, scat]
        exact hle
      · exact hx.elim
    · exact hx.elim
  · rename_i t x lo hi mx heq
    split at hx
    · rename_i s hu hxs
      have h1 := hsv x; rw [hxs] at h1
      split at hx
      · rename_i l hh hl hhi
        obtain ⟨⟨hl0, hlh, hhs⟩, hk⟩ := hx
        simp only [slen] at hhs hhi
        refine ⟨.string (ssub s l hh), _, fun w' => ?_, .pure _ _ (.val _), hk⟩
        have hb := bounds_run (P := P) (w' := w') (hsv := hsv) false s.size s.size (lo := lo) (hi := hi) (l := l) (h' := hh) hl hhi hl0 hlh (by simpa using hhs) (by simpa using hhs)
        simp [execOp, heq, h1.val_inv, Instr.sliceAt, Instr.slice, run_underlying hu, hb, ssub]
      · exact hx.elim
    · rename_i e sz rows tok hu hxs
      have h1 := hsv x; rw [hxs] at h1
      have hp := h1.slice_pure
      obtain ⟨p, cap, hv⟩ := h1.slice_inv
      rw [hv] at hp
      have hcap : rows.length ≤ cap := by
        generalize hvv : Value.slice p rows.length cap = v at hp
        cases hp with
        | empty => simp
        | slice _ _ _ _ _ _ _ _ _ _ _ _ _ hle => cases hvv; exact hle
      split at hx
      · rename_i z l hh hz hl hhi
        cases hb : (Nat.beq z sz || Nat.beq sz 0) with
        | false => simp [hb] at hx
        | true =>
          simp only [hb, cond_true] at hx
          simp only [Bool.or_eq_true] at hb
          have hzz : z = sz ∨ sz = 0 := hb.elim (fun e => .inl (Nat.eq_of_beq_eq_true e)) (fun e => .inr (Nat.eq_of_beq_eq_true e))
          obtain ⟨⟨hl0, hlh, hhs⟩, hk⟩ := hx
          simp only [rlen] at hhs hhi
          have hb' : hh.toNat ≤ rows.length := by simp at hhs; omega
          refine ⟨_, _, fun w' => ?_, .pure _ _ (PRep.sub (z := z) hp (l := l.toNat) (hh := hh.toNat) (m := cap) (by omega) hb' (by omega) (Nat.le_refl _) hzz 0 (by omega) (by omega)), by simpa [rsub] using hk⟩
          have hb := bounds_run (P := P) (w' := w') (hsv := hsv) true rows.length cap (lo := lo) (hi := hi) (l := l) (h' := hh) hl hhi hl0 hlh (by simpa using hhs) (by simp at hhs ⊢; omega)
          simp [execOp, heq, hv, Instr.sliceAt, Instr.slice, run_underlying hu, hb, run_sizeOf' w' hz]
      · rename_i z l hh m hz hl hhi
        split at hx
        · rename_i hio kd mm hms
          cases hb : (Nat.beq z sz || Nat.beq sz 0) with
          | false => simp [hb] at hx
          | true =>
            simp only [hb, cond_true] at hx
            simp only [Bool.or_eq_true] at hb
            have hzz : z = sz ∨ sz = 0 := hb.elim (fun e => .inl (Nat.eq_of_beq_eq_true e)) (fun e => .inr (Nat.eq_of_beq_eq_true e))
            obtain ⟨⟨hl0, hlh, hmm, hhs⟩, hk⟩ := hx
            subst hmm
            simp only [rlen] at hhs hhi
            have hb' : hh.toNat ≤ rows.length := by simp at hhs; omega
            refine ⟨_, _, fun w' => ?_, .pure _ _ (PRep.sub (z := z) hp (l := l.toNat) (hh := hh.toNat) (m := hh.toNat) (by omega) hb' (by omega) (by omega) hzz 1 (by omega) (fun _ => rfl)), by simpa [rsub] using hk⟩
            have hm := hsv m; rw [hms] at hm
            have hb := bounds_run3 (P := P) (w' := w') (hsv := hsv) rows.length cap (lo := lo) (hi := hio) (m := m) (l := l) (h' := hh) hl hhi hm.val_inv hl0 hlh (by simp at hhs ⊢; omega)
            simp [execOp, heq, hv, Instr.sliceAt, Instr.slice, run_underlying hu, hb, run_sizeOf' w' hz]
        · exact hx.elim
      · exact hx.elim
    · rename_i m e id off hu hxs
      have h1 := hsv x; rw [hxs] at h1
      split at hx
      · rename_i hz
        refine ⟨.slice (some ⟨(ρ id).blk, off, none⟩) m m, _, fun w' => ?_, .bsl id off m, hx⟩
        have hadd : (⟨(ρ id).blk, off, none⟩ : Addr).add (0 * 1) = ⟨(ρ id).blk, off, none⟩ := by rw [add_mk]; rfl
        simp [execOp, heq, h1.ptr_inv, Instr.sliceAt, run_underlying hu, Instr.sureAddr, Instr.sliceBounds, run_sizeOf' w' hz, add_mk]
      · exact hx.elim
    · exact hx.elim
  · exact hx.elim

/-- An operation that is not loud: its value is the same in every world in which what it reads is. -/
theorem calm_sound (F : FitsAt w0 h0 h ρ st a w) (T : FuncId → Bool) (o : Oper) (gv : List (Nat × Bool) → Operand → SV)
    (hgv : ∀ ex x, (∀ g ∈ ex, a.tmps.getD g.1 undef = .bool g.2) → Rep h ρ (a.eval x) (gv ex x)) (K : St → Prop) (hl : loud P o.op = false)
    (hx : exec P T o gv st K) : ∃ v, (∀ w', SameB (fblk a o) w w' → (execOp a.eval o).run P w' = .ok (.value v) w') ∧ Goes w0 h0 K (a.put o.dst v) w := by
  unfold exec at hx
  simp only [hl, cond_false] at hx
  split at hx
  · rename_i s hs
    obtain ⟨v, hrun, r⟩ := quiet_sound F o gv hgv hs
    exact ⟨v, hrun, _, ⟨h, ρ, F.put o.dst (TRep.of_rep' r)⟩, hx⟩
  · obtain ⟨v, s, hrun, r, hk⟩ := still_sound o gv (fun x => hgv [] x (by simp)) _ hx
    exact ⟨v, fun w' _ => hrun w', _, ⟨h, ρ, F.put o.dst (TRep.of_rep' r)⟩, hk⟩

theorem exec_sound (F : FitsAt w0 h0 h ρ st a w) (T : FuncId → Bool) (o : Oper) (gv : List (Nat × Bool) → Operand → SV)
    (hgv : ∀ ex x, (∀ g ∈ ex, a.tmps.getD g.1 undef = .bool g.2) → Rep h ρ (a.eval x) (gv ex x)) (K : St → Prop)
    (hx : exec P T o gv st K) (Q : Exit → Act → World → Prop) : o.wp P a w (After w0 h0 K o a w) Q := by
  cases hl : loud P o.op with
  | true =>
    unfold exec at hx
    simp only [hl, cond_true] at hx
    exact loud_sound F T o gv (fun x => hgv [] x (by simp)) K hx Q
  | false =>
    obtain ⟨v, hrun, hg⟩ := calm_sound F T o gv hgv K hl hx
    unfold Oper.wp
    rw [hrun w (SameB.refl _ w)]
    exact ⟨hg, ⟨_, rfl⟩, Nat.le_refl _, fun _ _ _ => rfl⟩

theorem chain_holds (F : FitsAt w0 h0 h ρ st a w) : ∀ (n : Nat) (g : Nat × Bool), a.tmps.getD g.1 undef = .bool g.2 → ∀ g' ∈ chain st n g, a.tmps.getD g'.1 undef = .bool g'.2
  | 0, _, _ => by simp [chain]
  | n + 1, g, hg => by
    intro g' hm
    simp only [chain, List.mem_cons] at hm
    rcases hm with rfl | hm
    · exact hg
    · split at hm
      · rename_i t w' x hx
        rw [lget_eq] at hx
        cases hs : st.tmps[g.1]? with
        | none => simp [hs] at hx
        | some s =>
          simp [hs] at hx
          subst hx
          have r := F.tm g.1 _ hs
          rcases r with ⟨h1, _⟩ | ⟨_, h2⟩
          · exact chain_holds F n (t, w') h1 g' hm
          · rw [hg] at h2; simp [undef] at h2
      · simp at hm

theorem yielded_getD (ops : Array Oper) (tm : Array Value) (j t : Nat) (ht : (ops[j]?).bind (·.dst) = some t) (b : Bool) : (yielded ops tm j == some b) = true ↔ tm.getD t undef = .bool b := by
  unfold yielded
  simp only [ht, Option.bind_some]
  rw [Array.getD_eq_getD_getElem?]
  cases hx : tm[t]? with
  | none => simp [undef]
  | some v =>
    simp only [Option.getD_some]
    cases v <;> simp

theorem fixL_get (t : Nat) (b : Bool) : ∀ (cs : List SV) (i : Nat), (fixL t b cs)[i]? = (cs[i]?).map (fun s => match s with | .gd t' w v => (bif Nat.beq t t' then (bif w == b then v else .unk) else .gd t' w v) | s => s)
  | [], i => by simp [fixL]
  | c :: cs, 0 => by cases c <;> simp [fixL]
  | c :: cs, i + 1 => by
    have := fixL_get t b cs i
    cases c <;> simpa [fixL] using this

theorem fixL_length (t : Nat) (b : Bool) : ∀ (cs : List SV), (fixL t b cs).length = cs.length
  | [] => rfl
  | c :: cs => by cases c <;> simp [fixL, fixL_length t b cs]

/-- A guard's slot is known. -/
theorem FitsAt.fix (F : FitsAt w0 h0 h ρ st a w) (t : Nat) (b : Bool) (hb : a.tmps.getD t undef = .bool b) : FitsAt w0 h0 h ρ (st.fix t b) a w := by
  refine { F with size := ?_, tm := fun i s hs => ?_ }
  · simp [St.fix, lset_eq, fixL_length, F.size]
  · simp only [St.fix, lset_eq] at hs
    rw [List.getElem?_set] at hs
    by_cases hti : t = i
    · subst hti
      simp only [if_true] at hs
      split at hs
      · cases hs; rw [hb]; exact TRep.of_rep' (.pure _ _ (.val _))
      · cases hs
    · simp only [hti, if_false, fixL_get] at hs
      cases hx : st.tmps[i]? with
      | none => simp [hx] at hs
      | some x =>
        simp [hx] at hs
        have r := F.tm i x hx
        split at hs
        · rename_i t' w' v
          by_cases htt : t = t'
          · subst htt
            simp only [Nat.beq_refl, cond_true] at hs
            cases hwb : (w' == b) with
            | false => simp only [hwb, cond_false] at hs; subst hs; exact TRep.rep_unk _ _
            | true =>
              simp only [hwb, cond_true] at hs
              subst hs
              have : w' = b := by simpa using hwb
              subst this
              rcases r with ⟨_, r⟩ | ⟨hne, _⟩
              · exact TRep.of_rep' r
              · exact absurd hb hne
          · rw [beq_false htt] at hs; simp only [cond_false] at hs; subst hs; exact r
        · subst hs; exact r

/-- Whether a guarded operation is carried out. -/
theorem wanted_iff {ops : Array Oper} {o : Oper} {j t : Nat} {wj : Bool} (hg : o.guard = some (j, wj)) (hdst : (ops[j]?).bind (·.dst) = some t) :
    Region.wanted o (yielded ops a.tmps) = true ↔ a.tmps.getD t undef = .bool wj := by
  simp only [Region.wanted, hg]
  exact yielded_getD ops a.tmps j t hdst wj

theorem gdst_inv {ops : Array Oper} {j t : Nat} {wj wt : Bool} (h : gdst ops (some (j, wj)) = some (t, wt)) : (ops[j]?).bind (·.dst) = some t ∧ wj = wt := by
  unfold gdst at h
  simp only [] at h
  split at h
  · rename_i t' ht; simp at h; exact ⟨by rw [ht, h.1], h.2⟩
  · cases h

/-- What an operation comes to, whether it is carried out or not. -/
theorem aop_sound (F : FitsAt w0 h0 h ρ st a w) (T : FuncId → Bool) (ops : Array Oper) (o : Oper) (K : St → Prop) (hx : aop P T ops o st K) (Q : Exit → Act → World → Prop) :
    if Region.wanted o (yielded ops a.tmps) then o.wp P a w (After w0 h0 K o a w) Q else Goes w0 h0 K (a.put o.dst undef) w := by
  unfold aop at hx
  split at hx
  · rename_i hg
    simp only [Region.wanted, hg, if_true]
    exact exec_sound F T o _ (fun ex x hg => F.operand ex hg x) K hx Q
  · rename_i g hg
    split at hx
    · exact hx.elim
    · rename_i t wt hgd
      obtain ⟨j, wj⟩ := g
      obtain ⟨hdst, rfl⟩ := gdst_inv hgd
      have hw := wanted_iff (a := a) hg hdst
      split at hx
      · rename_i s hs
        cases hl : loud P o.op with
        | true => simp [hl] at hs
        | false =>
          simp only [hl, cond_false] at hs
          by_cases hwant : Region.wanted o (yielded ops a.tmps) = true
          · rw [if_pos hwant]
            have hb := hw.1 hwant
            obtain ⟨v, hrun, r⟩ := quiet_sound F o _ (fun ex x hge => F.operand (ex ++ chain st 4 (t, wj)) (fun g hm => by
              rcases List.mem_append.1 hm with hm | hm
              · exact hge g hm
              · exact chain_holds F 4 (t, wj) hb g hm) x) hs
            unfold Oper.wp
            rw [hrun w (SameB.refl _ w)]
            exact ⟨⟨_, ⟨h, ρ, F.put o.dst (s := .gd t wj s) (.inl ⟨hb, r⟩)⟩, hx⟩, ⟨_, rfl⟩, Nat.le_refl _, fun _ _ _ => rfl⟩
          · rw [if_neg hwant]
            exact ⟨_, ⟨h, ρ, F.put o.dst (s := .gd t wj s) (.inr ⟨fun e => hwant (hw.2 e), rfl⟩)⟩, hx⟩
      · split at hx
        · rename_i b hb
          have hv : a.tmps.getD t undef = .bool b := by
            have := F.slot [] (by simp) t
            rw [hb] at this
            exact this.val_inv
          by_cases hwant : Region.wanted o (yielded ops a.tmps) = true
          · rw [if_pos hwant]
            have e := hw.1 hwant
            rw [hv] at e
            have e' : b = wj := by injection e
            have F1 := F.fix t wj (by rw [hv, e'])
            refine exec_sound F1 T o _ (fun ex x hge => F1.operand ex hge x) K ?_ Q
            subst e'
            cases b <;> exact hx
          · rw [if_neg hwant]
            have e' : b = !wj := by
              cases b <;> cases wj <;> first | rfl | exact absurd (hw.2 hv) hwant
            have F1 := F.fix t (!wj) (by rw [hv, e'])
            refine ⟨_, ⟨h, ρ, F1.put o.dst (TRep.rep_unk _ _)⟩, ?_⟩
            subst e'
            cases wj <;> exact hx
        · exact hx.elim

/-- An operation that is not loud, whether it is carried out or not: its value stays. -/
theorem aop_calm (F : FitsAt w0 h0 h ρ st a w) (T : FuncId → Bool) (ops : Array Oper) (o : Oper) (K : St → Prop) (hl : loud P o.op = false) (hx : aop P T ops o st K) :
    ∃ v, (Region.wanted o (yielded ops a.tmps) = true → ∀ w', SameB (fblk a o) w w' → (execOp a.eval o).run P w' = .ok (.value v) w') ∧
      (Region.wanted o (yielded ops a.tmps) = false → v = undef) ∧ Goes w0 h0 K (a.put o.dst v) w := by
  unfold aop at hx
  split at hx
  · rename_i hg
    obtain ⟨v, hrun, hgo⟩ := calm_sound F T o _ (fun ex x hg => F.operand ex hg x) K hl hx
    exact ⟨v, fun _ => hrun, fun e => by simp [Region.wanted, hg] at e, hgo⟩
  · rename_i g hg
    split at hx
    · exact hx.elim
    · rename_i t wt hgd
      obtain ⟨j, wj⟩ := g
      obtain ⟨hdst, rfl⟩ := gdst_inv hgd
      have hw := wanted_iff (a := a) hg hdst
      split at hx
      · rename_i s hs
        simp only [hl, cond_false] at hs
        by_cases hwant : Region.wanted o (yielded ops a.tmps) = true
        · have hb := hw.1 hwant
          obtain ⟨v, hrun, r⟩ := quiet_sound F o _ (fun ex x hge => F.operand (ex ++ chain st 4 (t, wj)) (fun g hm => by
            rcases List.mem_append.1 hm with hm | hm
            · exact hge g hm
            · exact chain_holds F 4 (t, wj) hb g hm) x) hs
          exact ⟨v, fun _ => hrun, fun e => by (rw [hwant] at e; cases e), _, ⟨h, ρ, F.put o.dst (s := .gd t wj s) (.inl ⟨hb, r⟩)⟩, hx⟩
        · exact ⟨undef, fun e => absurd e hwant, fun _ => rfl, _, ⟨h, ρ, F.put o.dst (s := .gd t wj s) (.inr ⟨fun e => hwant (hw.2 e), rfl⟩)⟩, hx⟩
      · split at hx
        · rename_i b hb
          have hv : a.tmps.getD t undef = .bool b := by
            have := F.slot [] (by simp) t
            rw [hb] at this
            exact this.val_inv
          by_cases hwant : Region.wanted o (yielded ops a.tmps) = true
          · have e := hw.1 hwant
            rw [hv] at e
            have e' : b = wj := by injection e
            have F1 := F.fix t wj (by rw [hv, e'])
            obtain ⟨v, hrun, hgo⟩ := calm_sound F1 T o _ (fun ex x hge => F1.operand ex hge x) K hl (by subst e'; cases b <;> exact hx)
            exact ⟨v, fun _ => hrun, fun e => by (rw [hwant] at e; cases e), hgo⟩
          · have e' : b = !wj := by
              cases b <;> cases wj <;> first | rfl | exact absurd (hw.2 hv) hwant
            have F1 := F.fix t (!wj) (by rw [hv, e'])
            refine ⟨undef, fun e => absurd e hwant, fun _ => rfl, _, ⟨h, ρ, F1.put o.dst (TRep.rep_unk _ _)⟩, ?_⟩
            subst e'
            cases wj <;> exact hx
        · exact hx.elim

end

section
variable {w0 : World} {h0 : Hp} {P : Program}

theorem vcOps_sound (T : FuncId → Bool) (ops : Array Oper) (Q : Exit → Act → World → Prop) (K : St → Prop) (hK : ∀ st a w, Fits w0 h0 st a w → K st → Q .normal a w) :
    ∀ (l : List Oper) (st : St) (a : Act) (w : World), Fits w0 h0 st a w → vcOps P T ops l st K → wpList P ops Q l a w
  | [], st, a, w, F, hv => hK st a w F hv
  | o :: rest, st, a, w, ⟨h, ρ, F⟩, hv => by
    have := aop_sound F T ops o _ hv Q
    simp only [wpList]
    split
    · rename_i hw
      rw [if_pos hw] at this
      exact .inl (Oper.wp_mono (fun a' w' ⟨⟨st', F', hk⟩, _⟩ => vcOps_sound T ops Q K hK rest st' a' w' F' hk) this)
    · rename_i hw
      rw [if_neg hw] at this
      obtain ⟨st', F', hk⟩ := this
      exact vcOps_sound T ops Q K hK rest st' _ w F' hk

end
end Go.Px

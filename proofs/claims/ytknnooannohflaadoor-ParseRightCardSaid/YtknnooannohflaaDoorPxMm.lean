/- The row's reading of the arguments, with the sizes that a machine has room for. -/
import Derived.Test.YtknnooannohflaaDoorPxIK
import Derived.Handed
namespace Go.Px
open Go.RowKit Go.ChangeShapes Go.WideShapes Go.ChangeAt
set_option linter.unusedVariables false

def bndL (P : Program) (e : TypeId) : Nat := bif Nat.beq (P.bytesOf e) 0 then maxLen else reachBytes

def TypW (P : Program) : Nat → TypeId → List SV → Prop
 | 0, _, _ => True
 | n + 1, t, ss => match P.underlying t with
  | some .bool => ∃ b, ss = [.val (.bool b)]
  | some (.int k) => ∃ x : Int, ss = [.val (.int k x)] ∧ (Lit.int k x).wf = true
  | some .string => ∃ s : ByteArray, ss = [.val (.string s)] ∧ s.size ≤ reachBytes
  | some (.slice e) => ∃ rows, ss = [.slice (P.cellsOf e) rows 0] ∧ rows.length ≤ bndL P e ∧ ∀ r ∈ rows, TypW P n e r
  | some (.struct fs) => Zju (fun f s => TypW P n f s) (fs.toList.map (·.type)) ss
  | some (.array m e) => Zju (fun f s => TypW P n f s) (List.replicate m e) ss
  | _ => True

section
variable {H : Type} {enc : TypeId × Value → H} {P : Program} {w : World} {spare : Nat → Bool} {held : Bool}

theorem Zga {e : TypeId} {d : DataW H} {x : Nat} : ∀ {l : List (DataW H)}, d ∈ l → x ∈ d.weights P e → x ∈ DataW.weightsAll P e l
 | a :: l, h, hx => by
  simp only [DataW.weightsAll, List.mem_append]
  rcases List.mem_cons.1 h with rfl | h
  ·exact .inl hx
  ·exact .inr (Zga h hx)

theorem Zgb (fuel n : Nat) (cs : List Value) (ih : ∀ t cs d ps, lay P n t = true → (∀ x ∈ d.weights P t, x ≤ reachBytes) → DataW.trod enc P w 0 spare held fuel t cs = some (d, ps) → ∃ ss, Reads w cs ss ∧ TypW P n t ss) :
  ∀ (fs : List Field) (off : Nat) (xs : List (DataW H × List MemPlace)), (∀ x ∈ DataW.weightsEach P (fs.map (·.type)) (xs.map (·.1)), x ≤ reachBytes) → Zp5 P off fs = true → (∀ f ∈ fs, lay P n f.type = true) →
   off + (fs.map fun f => P.cellsOf f.type).foldr (· + ·) 0 = cs.length →
   fs.mapM (fun f => DataW.trod enc P w 0 spare held fuel f.type ((cs.drop f.offset).take (P.cellsOf f.type))) = some xs →
   ∃ ss, Reads w (cs.drop off) ss ∧ Zju (fun f s => TypW P n f s) (fs.map (·.type)) ss
 | [], off, xs, _, _, _, hl, _ => ⟨[], by simp at hl; rw [List.drop_of_length_le (by omega)]; exact ⟨rfl, by simp⟩, rfl⟩
 | f :: fs, off, xs, hwt, hc, hlay, hl, hm => by simp only [Zp5, Bool.and_eq_true] at hc; have ho : f.offset = off := Nat.eq_of_beq_eq_true hc.1; rw [List.mapM_cons] at hm; simp only [bind, Option.bind_eq_some_iff, pure, Option.some.injEq] at hm; obtain ⟨x, hx, xs', hxs, rfl⟩ := hm; obtain ⟨d, ps⟩ := x; obtain ⟨s1, r1, t1⟩ := ih f.type _ d ps (hlay f (by simp)) (fun x hx => hwt x (by simp [DataW.weightsEach, hx])) hx; simp only [List.map_cons, List.foldr_cons] at hl; obtain ⟨s2, r2, t2⟩ := Zgb fuel n cs ih fs (off + P.cellsOf f.type) xs' (fun x hx => hwt x (by simp only [List.map_cons, DataW.weightsEach, List.mem_append]; exact .inr hx)) hc.2 (fun g hg => hlay g (by simp [hg])) (by omega) hxs; refine ⟨s1 ++ s2, ?_, s1, s2, rfl, t1, t2⟩; rw [ho] at r1; have e : cs.drop off = (cs.drop off).take (P.cellsOf f.type) ++ cs.drop (off + P.cellsOf f.type) := (by rw [← List.drop_drop, List.take_append_drop]); rw [e]; exact r1.append r2

theorem Zg1 (fuel n : Nat) (e : TypeId) (cs : List Value) (he : lay P n e = true) (ih : ∀ t cs d ps, lay P n t = true → (∀ x ∈ d.weights P t, x ≤ reachBytes) → DataW.trod enc P w 0 spare held fuel t cs = some (d, ps) → ∃ ss, Reads w cs ss ∧ TypW P n t ss) :
  ∀ (m k : Nat) (xs : List (DataW H × List MemPlace)), (∀ x ∈ DataW.weightsAll P e (xs.map (·.1)), x ≤ reachBytes) → (k + m) * P.cellsOf e = cs.length →
   (List.range' k m).mapM (fun i => DataW.trod enc P w 0 spare held fuel e ((cs.drop (i * P.cellsOf e)).take (P.cellsOf e))) = some xs →
   ∃ ss, Reads w (cs.drop (k * P.cellsOf e)) ss ∧ Zju (fun f s => TypW P n f s) (List.replicate m e) ss
 | 0, k, xs, _, hl, _ => ⟨[], by rw [List.drop_of_length_le (by rw [← hl]; simp)]; exact ⟨rfl, by simp⟩, rfl⟩
 | m + 1, k, xs, hwt, hl, hm => by rw [List.range'_succ, List.mapM_cons] at hm; simp only [bind, Option.bind_eq_some_iff, pure, Option.some.injEq] at hm; obtain ⟨x, hx, xs', hxs, rfl⟩ := hm; obtain ⟨d, ps⟩ := x; obtain ⟨s1, r1, t1⟩ := ih e _ d ps he (fun x hx => hwt x (by simp [DataW.weightsAll, hx])) hx; obtain ⟨s2, r2, t2⟩ := Zg1 fuel n e cs he ih m (k + 1) xs' (fun x hx => hwt x (by simp only [List.map_cons, DataW.weightsAll, List.mem_append]; exact .inr hx)) (by rw [← hl]; congr 1; omega) hxs; refine ⟨s1 ++ s2, ?_, s1, s2, rfl, t1, t2⟩; have e' : cs.drop (k * P.cellsOf e) = (cs.drop (k * P.cellsOf e)).take (P.cellsOf e) ++ cs.drop ((k + 1) * P.cellsOf e) := (by rw [Nat.succ_mul, ← List.drop_drop, List.take_append_drop]); rw [e']; exact r1.append r2

theorem Zsd : ∀ (fuel n : Nat) (t : TypeId) (cs : List Value) (d : DataW H) (ps : List MemPlace), lay P n t = true → (∀ x ∈ d.weights P t, x ≤ reachBytes) → DataW.trod enc P w 0 spare held fuel t cs = some (d, ps) →
  ∃ ss, Reads w cs ss ∧ TypW P n t ss := by
 intro fuel
 induction fuel with
 | zero => intro n t cs d ps _ _ h; simp [DataW.trod] at h
 | succ fuel ih =>
  intro n
  cases n with
  | zero => intro t cs d ps hl _ _; simp [lay] at hl
  | succ n =>
   intro t cs d ps hlay hwt h; unfold DataW.trod at h; simp only [TypW]; simp only [lay] at hlay
   split at h
   ·rename_i b ht; rw [ht]; exact ⟨_, Reads.val _ rfl, b, rfl⟩
   ·rename_i k k' x ht; rw [ht]
    split at h
    ·rename_i hk; obtain ⟨rfl, hwf⟩ := hk; exact ⟨_, Reads.val _ rfl, x, rfl, hwf⟩
    ·cases h
   ·rename_i k k' x ht; rw [ht]; exact ⟨_, Reads.val _ rfl, trivial⟩
   ·rename_i s ht; rw [ht]
    split at h
    ·cases h
     have := hwt s.data.toList.length (by simp [DataW.weights]); exact ⟨_, Reads.val _ rfl, s, rfl, by rw [Array.length_toList] at this; exact this⟩
    ·cases h
   ·rename_i e ht; rw [ht]; exact ⟨_, Reads.val _ rfl, trivial⟩
   ·rename_i e a ht; rw [ht]; exact ⟨_, Reads.val _ rfl, trivial⟩
   ·rename_i e ht; rw [ht]; exact ⟨[.slice (P.cellsOf e) [] 0], Reads.one (.empty none 0 _ 0 (by omega) (by omega) (by simp)) rfl, [], rfl, by simp, by simp⟩
   ·rename_i e a len cap ht; rw [ht] at hlay ⊢; simp only [Bool.and_eq_true] at hlay; have hpos : 0 < P.cellsOf e := Nat.le_of_ble_eq_true hlay.1
    split at h
    ·rename_i hcond; obtain ⟨_, hle, hcap⟩ := hcond; simp only [Option.bind_eq_some_iff, Option.map_eq_some_iff] at h; obtain ⟨elems, hel, rest, hre, hd⟩ := h
     cases hd
     simp only [DataW.weights, ht, List.mem_cons, List.mem_append] at hwt; obtain ⟨hlen, hget⟩ := Zp6 hel; simp at hlen; by_cases h0 : len = 0
     ·subst h0; exact ⟨[.slice (P.cellsOf e) [] 0], Reads.one (.empty (some a) cap _ 0 (by omega) (by omega) (by simp)) rfl, [], rfl, by simp, by simp⟩
     ·have each : ∀ i, i < len → ∃ cs', w.cells? 0 (a.add (i * P.cellsOf e)) (P.cellsOf e) = some cs' ∧ ∃ ss, Reads w cs' ss ∧ TypW P n e ss := by intro i hi; have hi' : i < elems.length := (by omega); obtain ⟨x, hx, hf⟩ := hget i _ (List.getElem?_eq_getElem hi'); simp [hi] at hx; subst hx; simp only [Option.bind_eq_some_iff] at hf; obtain ⟨cs', hcs, htr⟩ := hf; exact ⟨cs', hcs, ih n e cs' elems[i].1 elems[i].2 hlay.2 (fun x hx => hwt x (.inr (.inl (Zga (List.mem_map_of_mem (List.getElem_mem hi')) hx)))) htr⟩
      have hspot : a.spot = none := by
       obtain ⟨cs', hcs, _⟩ := each 0 (by omega); obtain ⟨_, _, hc⟩ := World.cells?_some hcs; have := hc 0 hpos; simp only [Nat.zero_mul, Addr.add, if_true] at this; have hlen' : cs'.length = P.cellsOf e := (World.cells?_some hcs).2.1; rw [List.getElem?_eq_getElem (by omega)] at this; unfold World.cell? at this
       cases hsp : a.spot with
       | none => rfl
       | some x => simp [hsp] at this; split at this <;> simp_all
      obtain ⟨b, off, sp⟩ := a; simp only at hspot; subst hspot
      obtain ⟨rows, hrl, hrows⟩ := Zjv (fun i ss => ∃ cs', w.cells? 0 ((⟨b, off, none⟩ : Addr).add (i * P.cellsOf e)) (P.cellsOf e) = some cs' ∧ Reads w cs' ss ∧ TypW P n e ss) len (fun i hi => by
       obtain ⟨cs', h1, ss, h2, h3⟩ := each i hi
       exact ⟨ss, cs', h1, h2, h3⟩)
      have cellAt : ∀ (i : Nat) r (j : Nat) c, rows[i]? = some r → r[j]? = some c → ∃ v, w.cell? ⟨b, off + i * P.cellsOf e + j, none⟩ = some v ∧ PRep (hof w) v c ∧ v.oneCell' = true := by
       intro i r j c hr hc; obtain ⟨cs', h1, h2, h3⟩ := hrows i r hr; obtain ⟨_, hl, hcell⟩ := World.cells?_some h1; have hj : j < cs'.length := by have := (List.getElem?_eq_some_iff.1 hc).1; rw [h2.1] at this; exact this
       have := hcell j (by omega); rw [Zb0, Zb0, List.getElem?_eq_getElem hj] at this; exact ⟨_, this, h2.2 j _ c (List.getElem?_eq_getElem hj) hc⟩
      have hlen0 : rows.length ≤ bndL P e := by
       have hw0 := hwt _ (.inl rfl); simp only [List.length_map] at hw0; unfold bndL
       cases hz : Nat.beq (P.bytesOf e) 0 with
       | true => simp only [cond_true]; omega
       | false =>
        simp only [cond_false]
        have hne : 1 ≤ P.bytesOf e := by
         rcases Nat.eq_zero_or_pos (P.bytesOf e) with q | q
         ·rw [q] at hz; cases hz
         ·exact q
        have := Nat.le_mul_of_pos_right (elems.length + rest.length) hne; omega
      refine ⟨[.slice (P.cellsOf e) rows 0], Reads.one ?_ rfl, rows, rfl, hlen0, fun r hr => ?_⟩
      ·rw [← hrl]; refine .slice b off cap _ rows 0 (fun i j => (w.cell? ⟨b, off + i * P.cellsOf e + j, none⟩).getD undef) hpos (fun i r hr => ?_) (fun i r j c hr hc => ?_) (fun i r j c hr hc => ?_) (fun i r j c hr hc => ?_) (by omega) (by omega) (by omega)
       ·obtain ⟨cs', h1, h2, _⟩ := hrows i r hr; rw [h2.1]; exact (World.cells?_some h1).2.1
       ·obtain ⟨v, hv, _⟩ := cellAt i r j c hr hc; simp [hof, hv]
       ·obtain ⟨v, hv, hp⟩ := cellAt i r j c hr hc; simp only [hv, Option.getD_some]; exact hp.1
       ·obtain ⟨v, hv, hp⟩ := cellAt i r j c hr hc; simp only [hv, Option.getD_some]; exact hp.2
      ·obtain ⟨i, hi, e1⟩ := List.mem_iff_getElem.1 hr; obtain ⟨_, _, _, h3⟩ := hrows i r (by rw [List.getElem?_eq_getElem hi, e1]); exact h3
    ·cases h
   ·rename_i _ fs ht; rw [ht] at hlay ⊢; simp only [Bool.and_eq_true, List.all_eq_true] at hlay
    split at h
    ·rename_i hl; simp only [Option.map_eq_some_iff] at h; obtain ⟨xs, hxs, hd⟩ := h
     cases hd
     simp only [DataW.weights, ht] at hwt; have := Zgb fuel n _ (fun t cs d ps h1 h2 h3 => ih n t cs d ps h1 h2 h3) fs.toList 0 xs hwt hlay.1.1 hlay.2 (by rw [hl, Nat.zero_add]; exact (Nat.eq_of_beq_eq_true hlay.1.2).symm) hxs
     simpa using this
    ·cases h
   ·rename_i _ m e ht; rw [ht] at hlay ⊢; simp only [Bool.and_eq_true] at hlay
    split at h
    ·rename_i hl; simp only [Option.map_eq_some_iff] at h; obtain ⟨xs, hxs, hd⟩ := h
     cases hd
     simp only [DataW.weights, ht] at hwt; have := Zg1 fuel n e _ hlay.2 (fun t cs d ps h1 h2 h3 => ih n t cs d ps h1 h2 h3) m 0 xs hwt (by rw [hl, Nat.zero_add]; exact (Nat.eq_of_beq_eq_true hlay.1).symm) (by rw [← List.range_eq_range']; exact hxs)
     simpa using this
    ·cases h
   all_goals (rename_i ht; first | (rw [ht]; exact ⟨_, Reads.val _ rfl, trivial⟩) | skip)
   all_goals cases h

theorem Zfg {x : Nat} : ∀ (ts : List TypeId) (ds : List (DataW H)) (us : List TypeId) (gs : List (DataW H)), x ∈ DataW.weightsEach P ts ds → x ∈ DataW.weightsEach P (ts ++ us) (ds ++ gs)
 | t :: ts, d :: ds, us, gs, h => by
  simp only [DataW.weightsEach, List.mem_append] at h; simp only [List.cons_append, DataW.weightsEach, List.mem_append]
  rcases h with h | h
  ·exact .inl h
  ·exact .inr (Zfg ts ds us gs h)
 | [], _, _, _, h => by simp [DataW.weightsEach] at h
 | _ :: _, [], _, _, h => by simp [DataW.weightsEach] at h

def TypVW (P : Program) (n : Nat) (t : TypeId) (s : SV) : Prop := ∃ ss, TypW P n t ss ∧ (Zbb P t = true → s = .agg ss) ∧ (Zbb P t = false → ss = [s])

def Zl8 (P : Program) (n : Nat) : List TypeId → List SV → Prop
 | [], ss => ss = []
 | t :: ts, ss => ∃ s rest, ss = s :: rest ∧ TypVW P n t s ∧ Zl8 P n ts rest

theorem Zrb {base n : Nat} {t : TypeId} {v : Value} {d : DataW H} {ps : List MemPlace} (hl : lay P n t = true) (hok : Value.okWide P w .any base t v)
  (hwt : ∀ x ∈ d.weights P t, x ≤ reachBytes) (h : DataW.Trod enc P w 0 spare held t v d ps) : ∃ s, TypVW P n t s ∧ PRep (hof w) v s := by
 obtain ⟨fuel, hf⟩ := h; obtain ⟨ss, hr, ht⟩ := Zsd fuel n t _ d ps hl hwt hf; obtain ⟨h1, h2⟩ := Zop hok
 cases hagg : Zbb P t with
 | true => obtain ⟨vs, rfl⟩ := h1 hagg; refine ⟨.agg ss, ⟨ss, ht, fun _ => rfl, fun e => by (rw [hagg] at e; cases e)⟩, .agg vs ss (by have := hr.1; simpa [Value.cells] using this.symm) fun i v c hv hc => (hr.2 i v c (by simpa [Value.cells] using hv) hc).1⟩
 | false =>
  have e := h2 hagg; rw [e] at hr; have hlen : ss.length = 1 := hr.1
  match ss, hlen with
  | [s], _ => exact ⟨s, ⟨[s], ht, fun e => by (rw [hagg] at e; cases e), fun _ => rfl⟩, (hr.2 0 v s (by simp) (by simp)).1⟩

theorem Zib {base n : Nat} : ∀ (ts : List TypeId) (vs : List Value) (ds : List (DataW H)) (ps : List MemPlace), (∀ t ∈ ts, lay P n t = true) →
  (∀ (j : Nat) t v, ts[j]? = some t → vs[j]? = some v → Value.okWide P w .any base t v) → (∀ x ∈ DataW.weightsEach P ts ds, x ≤ reachBytes) → DataW.TrodAll enc P w 0 spare held ts vs ds ps →
  ∃ ss, Zl8 P n ts ss ∧ vs.length = ss.length ∧ ∀ (i : Nat) v s, vs[i]? = some v → ss[i]? = some s → PRep (hof w) v s
 | [], [], [], ps, _, _, _, _ => ⟨[], rfl, rfl, by simp⟩
 | t :: ts, v :: vs, d :: ds, ps, hl, hok, hwt, h => by
  obtain ⟨p, q, h1, h2, _⟩ := h; obtain ⟨s, hs, hp⟩ := Zrb (hl t (by simp)) (hok 0 t v rfl rfl) (fun x hx => hwt x (by simp only [DataW.weightsEach, List.mem_append]; exact .inl hx)) h1; obtain ⟨ss, g1, g2, g3⟩ := Zib ts vs ds q (fun t ht => hl t (by simp [ht])) (fun j t v ht hv => hok (j + 1) t v (by simpa using ht) (by simpa using hv)) (fun x hx => hwt x (by simp only [DataW.weightsEach, List.mem_append]; exact .inr hx)) h2; refine ⟨s :: ss, ⟨s, ss, rfl, hs, g1⟩, by simp [g2], fun i u c hu hc => ?_⟩
  cases i with
  | zero => simp at hu hc; subst hu; subst hc; exact hp
  | succ i => exact g3 i u c (by simpa using hu) (by simpa using hc)
 | [], _ :: _, _, _, _, _, _, h => by simp [DataW.TrodAll] at h
 | [], [], _ :: _, _, _, _, _, h => by simp [DataW.TrodAll] at h
 | _ :: _, [], _, _, _, _, _, h => by simp [DataW.TrodAll] at h
 | _ :: _, _ :: _, [], _, _, _, _, h => by simp [DataW.TrodAll] at h

theorem Zl9 {f : FuncId} {fn : Func} (n : Nat) (s : ChangeSpec) (tb : TypeId) (hvars : s.vars = []) (hlo : laidOutB P = true)
  (hlay : fn.params.toList.all (fun t => lay P n t && P.readableRec t && Nat.blt t P.types.size) = true) (hres : fn.resultTypes = #[tb]) (htb : P.underlying tb = some .bool)
  (W : World) (base : Nat) (args : Array Value) (ds gs : List (DataW H)) (before : List MemPlace)
  (hfn : ∀ l : List (DataW H), l.length = fn.params.size → (s.fn H l).results = [.lit (.bool true)] ∧ (s.fn H l).args = l ∧ (s.fn H l).vars = [])
  (hval : ∀ (j : Nat) t v, fn.params[j]? = some t → args[j]? = some v → Value.okWide P W .any base t v)
  (hW : DataW.Whole enc P fn.params.toList s.vars false W args.toList ds gs before)
  (hwt : (DataW.weightsEach P (fn.params.toList ++ s.plain.varTypes P) (ds ++ gs)).all (· ≤ reachBytes) = true)
  (hgl : Gl (hof W) W)
  (hlaw : ∀ ss, Zl8 P n fn.params.toList ss → Ct P f {} ss (fun r => r = [.val (.bool true)])) :
  Calls P f args W fun e W' => ∃ v, e = .returned v ∧ s.post enc P fn false true false false W args v W' := by
 have hW' := hW; obtain ⟨p, q, hA, hV, rfl, hfz, hnd⟩ := hW; rw [List.all_eq_true] at hlay
 obtain ⟨ss, h1, h2, h3⟩ := Zib (n := n) (base := base) fn.params.toList args.toList ds p (fun t ht => by have := hlay t ht; simp at this; exact this.1.1)
  (fun j t v ht hv => hval j t v (by simpa using ht) (by simpa using hv)) (fun x hx => by
   rw [List.all_eq_true] at hwt; have := hwt x (Zfg fn.params.toList ds _ gs hx)
   simpa using this) hA
 refine ((hlaw ss h1).2 ss [] (Zaz pId ss 0) (hof W) (fun _ => noLoc) W args ⟨Zw7 W, by simp, fun i j ⟨⟨o, e⟩, _⟩ => by simp [oget] at e⟩ hgl ⟨by simpa using h2, fun i v s hv hs => .pure _ _ (h3 i v s (by simpa using hv) hs)⟩).mono ?_; rintro e W' ⟨vr, h', ρ, rs, hr, objs', rfl, rfl, hend, hrep, _, _, _, _, _, hkp⟩; have hb : Below W.heap.size W W' := hkp.below (fun k ⟨i, ⟨⟨o, e⟩, _⟩, _⟩ => by simp [oget] at e); refine ⟨_, rfl, ?_⟩
 have hv : rets vr = .bool true := by
  unfold endH at hend; simp only [Zaz] at hend
  split at hend
  ·rename_i hs os os' ha hl
   cases ha
   cases hend
   have hlen := hrep.1
   match vr, hlen with
   | [], _ => simp [lentH] at hl
   | [v], _ => have := hrep.2 0 v (.val (.bool true)) rfl (by simp); exact this.val_inv
   | _ :: _ :: _, hlen => simp at hlen
  ·cases hend
 rw [hv]
 have hvq : q = [] ∧ gs = [] := by
  rw [hvars] at hV
  cases gs with
  | nil => exact ⟨by simpa [DataW.TrodVars] using hV, rfl⟩
  | cons x xs => simp [DataW.TrodVars] at hV
 obtain ⟨rfl, rfl⟩ := hvq; have hfn := hfn (ds ++ []) (by rw [List.append_nil, Zgc _ _ _ _ hA]; simp); rw [List.append_nil] at hfn; refine ⟨ds, [], p ++ [], [], p, [], hW', ?_, ?_, ?_, hb.frame _, fun h => by cases h⟩
 ·rw [List.append_nil, hfn.1, hres]; exact trodAll_mk1 (shut_bool htb true)
 ·rw [List.append_nil, hfn.2.1]; exact Zg8 hlo hb _ _ _ _ (fun t ht => by have := hlay t ht; simp at this; exact ⟨this.1.2, this.2⟩) (fun x hx => hW'.lt x (by simpa using hx)) hA
 ·rw [hvars, List.append_nil, hfn.2.2]; rfl

end

end Go.Px

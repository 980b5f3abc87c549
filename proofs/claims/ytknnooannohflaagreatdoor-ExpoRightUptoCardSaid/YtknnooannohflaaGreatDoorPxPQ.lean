/- Calls by contract. -/
import Derived.Test.YtknnooannohflaaGreatDoorPxEG
namespace Go.Px
open Go.RowKit
set_option linter.unusedVariables false

section
variable {X : Cx} {h h' : Hp} {ρ : Nat → Loc} {st : St} {a : Act} {w w' : World} {P : Program}

/-- Fewer slots and objects are known. -/
theorem FitsAt.weaken (F : FitsAt X h ρ st a w) (st2 : St) (hl : st2.tmps.length = st.tmps.length) (ht : ∀ (t : Nat) s, st2.tmps[t]? = some s → TRep h ρ a.tmps (a.tmps.getD t undef) s)
    (ho : ∀ id o, oget st2.objs id = some o → oget st.objs id = some o) : FitsAt X h ρ st2 a w :=
  { F with
    size := by rw [F.size, hl]
    tm := ht
    obj := fun id o e => F.obj id o (ho id o e)
    inj := fun i j ⟨⟨o, e⟩, hi⟩ ⟨⟨o', e'⟩, hj⟩ hij => F.inj i j ⟨⟨o, ho i o e⟩, hi⟩ ⟨⟨o', ho j o' e'⟩, hj⟩ hij
    own := fun i ⟨⟨o, e⟩, hi⟩ => F.own i ⟨⟨o, ho i o e⟩, hi⟩ }

theorem FitsAt.odel (F : FitsAt X h ρ st a w) (id : Nat) : FitsAt X h ρ { st with objs := odel st.objs id } a w :=
  F.weaken _ rfl F.tm (fun i o e => (oget_odel_some e).2)

theorem dropPassed_fits (ms : List Md) : ∀ (l : List (Option Nat × Nat)) {st : St}, FitsAt X h ρ st a w → FitsAt X h ρ (dropPassed ms l st) a w ∧
    ∀ i o, oget (dropPassed ms l st).objs i = some o → (∃ o', oget st.objs i = some o') ∧ ∀ c, (some i, c) ∉ l
  | [], st, F => ⟨F, fun i o e => ⟨⟨o, e⟩, by simp⟩⟩
  | (none, c) :: l, st, F => by
    obtain ⟨F1, g⟩ := dropPassed_fits ms l F
    exact ⟨F1, fun i o e => ⟨(g i o e).1, fun c' hm => (g i o e).2 c' (by simpa using hm)⟩⟩
  | (some id, cid) :: l, st, F => by
    simp only [dropPassed]
    have step : ∀ st1 : St, FitsAt X h ρ st1 a w → (∀ i o, oget st1.objs i = some o → i ≠ id ∧ ∃ o', oget st.objs i = some o') →
        FitsAt X h ρ (dropPassed ms l st1) a w ∧ ∀ i o, oget (dropPassed ms l st1).objs i = some o → (∃ o', oget st.objs i = some o') ∧ ∀ c, (some i, c) ∉ (some id, cid) :: l := by
      intro st1 F1 h1
      obtain ⟨F2, g⟩ := dropPassed_fits ms l F1
      refine ⟨F2, fun i o e => ?_⟩
      obtain ⟨⟨o', e'⟩, hno⟩ := g i o e
      obtain ⟨hne, ho⟩ := h1 i o' e'
      refine ⟨ho, fun c hm => ?_⟩
      rcases List.mem_cons.1 hm with e2 | hm
      · cases e2; exact hne rfl
      · exact hno c hm
    split
    · cases (Nat.beq (cid % 128) 0 || Nat.ble 64 (cid % 128)) with
      | true => exact step _ (F.odel id) (fun i o e => ⟨(oget_odel_some e).1, _, (oget_odel_some e).2⟩)
      | false =>
        refine step _ (F.drop id (fun _ _ => rfl) (.inr rfl)) (fun i o e => ?_)
        obtain ⟨o', e', rfl⟩ := oget_hmapO_some e
        obtain ⟨hne, e''⟩ := oget_odel_some e'
        exact ⟨hne, _, e''⟩
    · refine step _ (F.drop id (fun _ _ => rfl) (.inr rfl)) (fun i o e => ?_)
      obtain ⟨o', e', rfl⟩ := oget_hmapO_some e
      obtain ⟨hne, e''⟩ := oget_odel_some e'
      exact ⟨hne, _, e''⟩

/-- A call has come back: blocks that were handed over have turned, no others. -/
theorem FitsAt.called (F : FitsAt X h ρ st a w) (G : Nat → Prop) (hG : ∀ i, live st.objs ρ i → ¬ G (ρ i).blk) (hGx : ∀ b, G b → X.w.heap.size ≤ b ∨ X.G b) (hk : Keeps G w w') (hle : HLe h h') (hsub : HSub h' w')
    (hext : ∀ b, b < w.heap.size → ¬ G b → ∀ o, h b o = none → h' b o = none) : FitsAt X h' ρ st a w' := by
  have lt := fun id o ho hn => ObOK.blk_lt (F.obj id o ho) hn
  refine { F with tm := fun t s hs => (F.tm t s hs).mono hle, sub := hsub, obj := fun id o ho => ?_, mono := F.mono.trans hle, ext := fun b hb hg o e => ?_, kp := F.kp.step hk hGx }
  · exact (F.obj id o ho).carry hle (fun hn => hk.block _ (lt id o ho hn) (hG id ⟨⟨o, ho⟩, hn⟩)) (fun hn x => hext _ (lt id o ho hn) (hG id ⟨⟨o, ho⟩, hn⟩) x)
  · refine hext b (Nat.lt_of_lt_of_le hb F.kp.size) (fun hg' => ?_) o (F.ext b hb hg o e)
    rcases hGx b hg' with h1 | h1
    · omega
    · exact hg h1

theorem ObOK.move {ρ1 ρ2 : Nat → Loc} {i c : Nat} {o : Ob} (hb : ∀ x, o ≠ .box x) (e : ρ2 i = ρ1 c) (r : ObOK h ρ1 w c o) : ObOK h ρ2 w i o := by
  cases o with
  | box x => exact absurd rfl (hb x)
  | own sz rows => simp only [ObOK, e] at r ⊢; exact r
  | mp es => simp only [ObOK, e] at r ⊢; exact r
  | arr kd m ns => simp only [ObOK, e] at r ⊢; exact r

/-- Objects come in. -/
theorem bindAll_fits (ρ2 : Nat → Loc) : ∀ (im : List (Nat × Nat × Ob)) {st : St} {ρ : Nat → Loc}, FitsAt X h ρ st a w → (im.map (·.1)).Nodup →
    (∀ i c o, (i, c, o) ∈ im → idOK i = true ∧ ObOK h ρ2 w c o ∧ (∀ x, o ≠ .box x) ∧ ((ρ2 c).none = false → (X.w.heap.size ≤ (ρ2 c).blk ∨ X.G (ρ2 c).blk) ∧ ∀ k, live st.objs ρ k → (ρ k).blk ≠ (ρ2 c).blk)) →
    (∀ i c o i' c' o', (i, c, o) ∈ im → (i', c', o') ∈ im → i ≠ i' → (ρ2 c).none = false → (ρ2 c').none = false → (ρ2 c).blk ≠ (ρ2 c').blk) →
    ∃ ρf, FitsAt X h ρf (bindAll im st) a w ∧ (∀ i c o, (i, c, o) ∈ im → ρf i = ρ2 c) ∧ (∀ k, (∀ p ∈ im, p.1 ≠ k) → ρf k = ρ k) ∧
      (∀ k o, oget (bindAll im st).objs k = some o → k ∈ im.map (·.1) ∨ ((∀ p ∈ im, p.1 ≠ k) ∧ ∃ o', oget st.objs k = some o'))
  | [], st, ρ, F, _, _, _ => ⟨ρ, F, by simp, fun _ _ => rfl, fun k o e => .inr ⟨by simp, o, e⟩⟩
  | (i, c, o) :: im, st, ρ, F, hn, ho, hd => by
    simp only [List.map_cons, List.nodup_cons] at hn
    obtain ⟨hid, h1, h2, h3⟩ := ho i c o (by simp)
    have hm : hmapOb (killG i) o = o := by cases o <;> first | rfl | exact absurd rfl (h2 _)
    have F1 := F.bind i hid o (ρ2 c) (by rw [hm]; exact h1.move h2 (upd_same _ _ _)) (fun hnn => (h3 hnn).1) (fun hnn k _ hk => (h3 hnn).2 k hk)
    have hlive : ∀ k, live (st.bind i o).objs (upd ρ i (ρ2 c)) k → k = i ∨ (k ≠ i ∧ live st.objs ρ k) := by
      intro k hk
      by_cases hki : k = i
      · exact .inl hki
      · refine .inr ⟨hki, ?_⟩
        obtain ⟨⟨x, hx⟩, hnk⟩ := hk
        simp only [St.bind, oget_cons, if_neg (Ne.symm hki)] at hx
        rw [upd_ne ρ _ hki] at hnk
        obtain ⟨x', hx', rfl⟩ := oget_hmapO_some hx
        exact ⟨⟨x', (oget_odel_some hx').2⟩, hnk⟩
    have hne : ∀ i' c' o', (i', c', o') ∈ im → i' ≠ i := fun i' c' o' hm' e => hn.1 (by subst e; exact List.mem_map_of_mem (f := (·.1)) hm')
    obtain ⟨ρf, Ff, g1, g2, g3⟩ := bindAll_fits ρ2 im F1 hn.2 (fun i' c' o' hm' => by
      obtain ⟨q0, q1, q2, q3⟩ := ho i' c' o' (by simp [hm'])
      refine ⟨q0, q1, q2, fun hnn => ⟨(q3 hnn).1, fun k hk => ?_⟩⟩
      rcases hlive k hk with rfl | ⟨hki, hk'⟩
      · rw [upd_same]
        exact hd k c o i' c' o' (by simp) (by simp [hm']) (fun e => hne i' c' o' hm' e.symm) (by have := hk.2; rwa [upd_same] at this) hnn
      · rw [upd_ne ρ _ hki]; exact (q3 hnn).2 k hk') (fun i1 c1 o1 i2 c2 o2 m1 m2 => hd i1 c1 o1 i2 c2 o2 (by simp [m1]) (by simp [m2]))
    refine ⟨ρf, Ff, fun i' c' o' hm' => ?_, fun k hk => ?_, fun k x hx => ?_⟩
    · rcases List.mem_cons.1 hm' with e | hm'
      · cases e
        rw [g2 i (fun p hp => hne p.1 p.2.1 p.2.2 hp), upd_same]
      · exact g1 i' c' o' hm'
    · rw [g2 k (fun p hp => hk p (by simp [hp])), upd_ne]
      exact fun e => hk (i, c, o) (by simp) e.symm
    · rcases g3 k x hx with hk | ⟨hk1, o', ho'⟩
      · exact .inl (by simp [hk])
      · by_cases hki : k = i
        · exact .inl (by simp [hki])
        · refine .inr ⟨fun p hp => ?_, ?_⟩
          · rcases List.mem_cons.1 hp with rfl | hp
            · exact fun e => hki e.symm
            · exact hk1 p hp
          · simp only [St.bind, oget_cons, if_neg (Ne.symm hki)] at ho'
            obtain ⟨x', hx', rfl⟩ := oget_hmapO_some ho'
            exact ⟨x', (oget_odel_some hx').2⟩

/-- Boxes come back. -/
theorem addAll_fits : ∀ (bx : List (Nat × Ob)) {st : St}, FitsAt X h ρ st a w → (bx.map (·.1)).Nodup →
    (∀ i o, (i, o) ∈ bx → oget st.objs i = none ∧ ObOK h ρ w i o ∧ ((ρ i).none = false → (X.w.heap.size ≤ (ρ i).blk ∨ X.G (ρ i).blk) ∧ ∀ k, live st.objs ρ k → (ρ k).blk ≠ (ρ i).blk)) →
    (∀ i o i' o', (i, o) ∈ bx → (i', o') ∈ bx → i ≠ i' → (ρ i).none = false → (ρ i').none = false → (ρ i).blk ≠ (ρ i').blk) →
    FitsAt X h ρ { tmps := st.tmps, objs := bx ++ st.objs } a w
  | [], st, F, _, _, _ => F
  | (i, o) :: bx, st, F, hn, ho, hd => by
    simp only [List.map_cons, List.nodup_cons] at hn
    have F1 := addAll_fits bx F hn.2 (fun i' o' hm => ho i' o' (by simp [hm])) (fun i1 o1 i2 o2 m1 m2 => hd i1 o1 i2 o2 (by simp [m1]) (by simp [m2]))
    obtain ⟨h1, h2, h3⟩ := ho i o (by simp)
    have hno : oget (bx ++ st.objs) i = none := by
      rw [oget_append, h1]
      cases e : oget bx i with
      | none => rfl
      | some x => exact absurd (List.mem_map_of_mem (f := (·.1)) (oget_mem e)) hn.1
    refine F1.add i o hno h2 (fun hnn => (h3 hnn).1) (fun hnn k hk => ?_)
    obtain ⟨⟨x, hx⟩, hnk⟩ := hk
    simp only [oget_append] at hx
    cases e : oget bx k with
    | some y =>
      exact hd k y i o (by simp [oget_mem e]) (by simp) (fun e' => hn.1 (by subst e'; exact List.mem_map_of_mem (f := (·.1)) (oget_mem e))) hnk hnn
    | none =>
      simp [e] at hx
      exact (h3 hnn).2 k ⟨⟨x, hx⟩, hnk⟩

/- The shapes of results. -/

theorem pureDatL_append : ∀ (l1 l2 : List SV), pureDatL l1 = true → pureDatL l2 = true → pureDatL (l1 ++ l2) = true
  | [], l2, _, h => h
  | c :: cs, l2, h1, h2 => by
    simp only [pureDatL, Bool.and_eq_true, List.cons_append] at h1 ⊢
    exact ⟨h1.1, pureDatL_append cs l2 h1.2 h2⟩

theorem shape_get : ∀ (n : Nat) (t : TypeId) (K : List SV → Prop), shapeCells P n t K → ∃ cs, pureDatL cs = true ∧ K cs := by
  intro n
  induction n with
  | zero => intro t K' h; exact h.elim
  | succ n ih =>
    intro t K' h
    simp only [shapeCells] at h
    have fold : ∀ (l : List TypeId) (K' : List SV → Prop) (acc : List SV), pureDatL acc = true → (l.foldr (fun f k acc => shapeCells P n f fun cs => k (acc ++ cs)) K') acc → ∃ cs, pureDatL cs = true ∧ K' cs := by
      intro l
      induction l with
      | nil => intro K' acc ha h; exact ⟨acc, ha, h⟩
      | cons t ts iht =>
        intro K' acc ha h
        obtain ⟨cs, h1, hcs⟩ := ih t _ h
        exact iht K' _ (pureDatL_append _ _ ha h1) hcs
    split at h
    · obtain ⟨b, hb⟩ := h; exact ⟨_, rfl, hb⟩
    · obtain ⟨b, hb⟩ := h; exact ⟨_, rfl, hb⟩
    · obtain ⟨b, hb⟩ := h; exact ⟨_, rfl, hb⟩
    · split at h
      · obtain ⟨b, hb⟩ := h; exact ⟨_, rfl, hb⟩
      · exact h.elim
    · obtain ⟨b, hb⟩ := h; exact ⟨_, rfl, hb⟩
    · obtain ⟨b, cs, hb⟩ := h; exact ⟨_, rfl, hb⟩
    · obtain ⟨b, hb⟩ := h
      cases b with
      | true => exact ⟨_, rfl, hb⟩
      | false => obtain ⟨i, hb⟩ := hb; exact ⟨_, rfl, hb⟩
    · obtain ⟨b, hb⟩ := h; exact ⟨_, rfl, hb⟩
    · obtain ⟨b, c, hb⟩ := h; exact ⟨_, rfl, hb⟩
    · rename_i fs _
      have e : ∀ (l : List Field), l.foldr (fun f k acc => shapeCells P n f.type fun cs => k (acc ++ cs)) K' = (l.map (·.type)).foldr (fun f k acc => shapeCells P n f fun cs => k (acc ++ cs)) K' := by
        intro l; induction l with
        | nil => rfl
        | cons x xs ihx => simp only [List.foldr_cons, List.map_cons, ihx]
      rw [e] at h
      exact fold _ _ _ rfl h
    · rename_i m e0 _
      have e : ∀ (l : List Nat), l.foldr (fun _ k acc => shapeCells P n e0 fun cs => k (acc ++ cs)) K' = (l.map (fun _ => e0)).foldr (fun f k acc => shapeCells P n f fun cs => k (acc ++ cs)) K' := by
        intro l; induction l with
        | nil => rfl
        | cons x xs ihx => simp only [List.foldr_cons, List.map_cons, ihx]
      rw [e] at h
      exact fold _ _ _ rfl h
    · obtain ⟨b, hp, hb⟩ := h; exact ⟨[b], by simp [pureDatL, hp], hb⟩

theorem shapeVs_get : ∀ (ts : List TypeId) (K : List SV → Prop), shapeVs P ts K → ∃ xs, xs.length = ts.length ∧ pureDatL xs = true ∧ K xs
  | [], K, h => ⟨[], rfl, rfl, h⟩
  | t :: ts, K, h => by
    simp only [shapeVs, shapeV] at h
    have key : ∃ s, pureDat s = true ∧ shapeVs P ts fun ss => K (s :: ss) := by
     split at h
     · rename_i kd m _
       obtain ⟨ns, h⟩ := h
       exact ⟨.arr kd m ns, by simp [pureDat], h⟩
     · obtain ⟨cs, h1, h2⟩ := shape_get _ _ _ h
       cases hb : isAggT P t with
       | true => simp only [hb, cond_true] at h2; exact ⟨.agg cs, by simp [pureDat, h1], h2⟩
       | false =>
         simp only [hb, cond_false] at h2
         split at h2
         · rename_i c; simp [pureDatL] at h1; exact ⟨c, h1, h2⟩
         · exact h2.elim
    obtain ⟨s, hs, h3⟩ := key
    obtain ⟨xs, e1, e2, e3⟩ := shapeVs_get ts _ h3
    exact ⟨s :: xs, by simp [e1], by simp [pureDatL, hs, e2], e3⟩

theorem shapeLs_get : ∀ (ts : List TypeId) (K : List SV → Prop), shapeLs P ts K → ∃ xs, xs.length = ts.length ∧ pureDatL xs = true ∧ K xs
  | [], K, h => ⟨[], rfl, rfl, h⟩
  | t :: ts, K, h => by
    simp only [shapeLs] at h
    obtain ⟨cs, h1, h2⟩ := shape_get _ _ _ h
    obtain ⟨xs, e1, e2, e3⟩ := shapeLs_get ts _ h2
    exact ⟨.agg cs :: xs, by simp [e1], by simp [pureDatL, pureDat, h1, e2], e3⟩

theorem shapeRL_get (ts us : List TypeId) (K : List SV → Prop) (h : shapeRL P ts us K) : ∃ xs, xs.length = (ts ++ us).length ∧ pureDatL xs = true ∧ K xs := by
  obtain ⟨a, a1, a2, h⟩ := shapeVs_get ts _ h
  obtain ⟨b, b1, b2, h⟩ := shapeLs_get us _ h
  exact ⟨a ++ b, by simp [a1, b1], pureDatL_append _ _ a2 b2, h⟩

theorem pureDatL_get : ∀ {l : List SV}, pureDatL l = true → ∀ (i : Nat) c, l[i]? = some c → pureDat c = true
  | [], _, i, c, h => by simp at h
  | x :: xs, hb, 0, c, h => by simp [pureDatL] at hb; simp at h; subst h; exact hb.1
  | x :: xs, hb, i + 1, c, h => by simp [pureDatL] at hb; exact pureDatL_get hb.2 i c (by simpa using h)

theorem Rep.toPure {v : Value} {s : SV} (r : Rep h ρ v s) : pureDat s = true → PRep h v s := by
  induction r with
  | pure v s hp => intro _; exact hp
  | agg vs cs hl _ ih => intro hp; exact .agg vs cs hl (fun i v c hv hc => ih i v c hv hc (pureDatL_get (by simpa [pureDat] using hp) i c hc))
  | tup => intro hp; simp [pureDat] at hp
  | ptr => intro hp; simp [pureDat] at hp
  | bsl => intro hp; simp [pureDat] at hp
  | osl0 => intro hp; simp [pureDat] at hp
  | osl => intro hp; simp [pureDat] at hp
  | eptr => intro hp; simp [pureDat] at hp
  | osv => intro hp; simp [pureDat] at hp
  | omp => intro hp; simp [pureDat] at hp
  | aptr => intro hp; simp [pureDat] at hp
  | asl => intro hp; simp [pureDat] at hp

/- The same data under other numbers. -/

theorem ownH_pair {i j : Nat} {s hd hd2 : SV} {o o2 : Ob} (e1 : ownH i s = some (hd, o)) (e2 : ownH j s = some (hd2, o2)) {ρ1 ρ2 : Nat → Loc} (hl : ρ1 i = ρ2 j) :
    o = o2 ∧ (∀ x, o ≠ .box x) ∧ ∀ v, Rep h ρ2 v hd2 → Rep h ρ1 v hd := by
  unfold ownH at e1 e2
  split at e1
  · cases e1; cases e2
    refine ⟨rfl, by simp, fun v r => ?_⟩
    rcases r.osl_inv with ⟨hn, p, rfl⟩ | ⟨hn, rfl⟩
    · exact .osl0 i p (by rw [hl]; exact hn)
    · rw [← hl] at hn ⊢; exact .osl i hn
  · cases e1; cases e2
    refine ⟨rfl, by simp, fun v r => ?_⟩
    rw [r.omp_inv, ← hl]; exact .omp i
  · cases e1

theorem callerId_mem {cid id : Nat} : ∀ {l : List (Option Nat × Nat)}, callerId cid l = some id → (some id, cid) ∈ l
  | [], e => by simp [callerId] at e
  | (none, _) :: l, e => by simp [callerId] at e; simp [callerId_mem e]
  | (some x, c) :: l, e => by
    simp only [callerId] at e
    cases hb : Nat.beq c cid with
    | true => simp [hb] at e; subst e; have := Nat.eq_of_beq_eq_true hb; subst this; simp
    | false => simp [hb] at e; simp [callerId_mem e]

theorem stay_mem {id j : Nat} {ms : List Bool} (hj : j < 64) (h1 : (ms.drop j).headD false = true) (h2 : stayH (ms.drop j) = true) : id + 64 + j ∈ staysC id ms := by
  unfold staysC
  have hl : Nat.ble ms.length 64 = false := by
    cases hb : Nat.ble ms.length 64 with
    | false => rfl
    | true =>
      have := Nat.le_of_ble_eq_true hb
      have e : (ms.drop j).drop 64 = [] := List.drop_of_length_le (by simp; omega)
      unfold stayH at h2
      rw [e] at h2
      cases h2
  rw [hl, cond_false]
  exact List.mem_filterMap.2 ⟨j, by simp [hj], by rw [h1, h2]; rfl⟩

/-- The cells of a lent box under other numbers. -/
theorem backCells_pair (ps : List (Option Nat × Nat)) (pid id : Nat) (ms : List Bool) : ∀ (cs : List SV) (j : Nat) (c1 c2 : List SV) (im : List (Nat × Nat × Ob)) (sx o2 : List (Nat × Ob)), pureDatL cs = true → backCells ps pid id j (ms.drop j) cs = some (c1, im, sx) → lendCells pid j (ms.drop j) cs = some (c2, o2) →
    c1.length = cs.length ∧ c2.length = cs.length ∧ (∀ x c o, (x, c, o) ∈ im → (c, o) ∈ o2 ∧ ∀ y, o ≠ .box y) ∧
    (∀ k o, (k, o) ∈ sx → ∃ c, (some k, c) ∈ ps ∧ (c, o) ∈ o2 ∧ c ∈ staysC pid ms ∧ ∀ y, o ≠ .box y) ∧
    ∀ ρ1 ρ2 : Nat → Loc, (∀ x c o, (x, c, o) ∈ im → ρ1 x = ρ2 c) → (∀ k o, (k, o) ∈ sx → ∀ c, (some k, c) ∈ ps → c ∈ staysC pid ms → ρ1 k = ρ2 c) →
      ∀ (i : Nat) v x y, c1[i]? = some x → c2[i]? = some y → Rep h ρ2 v y → Rep h ρ1 v x
  | [], j, c1, c2, im, sx, o2, _, e1, e2 => by
    simp [lendCells] at e2
    simp [backCells] at e1
    obtain ⟨rfl, rfl, rfl⟩ := e1; obtain ⟨rfl, rfl⟩ := e2
    exact ⟨rfl, rfl, by simp, by simp, by simp⟩
  | c :: cs, j, c1, c2, im, sx, o2, hp, e1, e2 => by
    simp only [pureDatL, Bool.and_eq_true] at hp
    simp only [lendCells, List.tail_drop] at e2
    simp only [backCells, List.tail_drop] at e1
    split at e1
    · cases e1
    · rename_i c1' im' sx' h1
      split at e2
      · cases e2
      · rename_i c2' o2' h2
        obtain ⟨l1, l2, g1, g2, g3⟩ := backCells_pair ps pid id ms cs (j + 1) c1' c2' im' sx' o2' hp.2 h1 h2
        cases hm : (ms.drop j).headD false with
        | true =>
          simp only [hm, cond_true] at e1 e2
          cases hs : stayH (ms.drop j) with
          | true =>
            simp only [hs, cond_true, cellId] at e1 e2
            split at e1
            · rename_i k hcid hlt
              have hj : j < 64 := Nat.le_of_ble_eq_true hlt
              split at e1
              · rename_i hd o ho
                split at e2
                · rename_i hd2 o2x ho2
                  cases e1; cases e2
                  have hst : pid + 64 + j ∈ staysC pid ms := stay_mem hj hm hs
                  refine ⟨by simp [l1], by simp [l2], fun x c' o' hm' => ?_, fun x o' hm' => ?_, fun ρ1 ρ2 hr hr2 i v x y hx hy r => ?_⟩
                  · obtain ⟨q1, q2⟩ := g1 x c' o' hm'
                    exact ⟨List.mem_cons_of_mem _ q1, q2⟩
                  · rcases List.mem_cons.1 hm' with e | hm'
                    · cases e
                      obtain ⟨e', hb, _⟩ := ownH_pair (h := h) ho ho2 (ρ1 := fun _ => noLoc) (ρ2 := fun _ => noLoc) rfl
                      subst e'
                      exact ⟨pid + 64 + j, callerId_mem hcid, by simp, hst, hb⟩
                    · obtain ⟨c', q1, q2, q3, q4⟩ := g2 x o' hm'
                      exact ⟨c', q1, List.mem_cons_of_mem _ q2, q3, q4⟩
                  · cases i with
                    | zero =>
                      simp at hx hy; subst hx; subst hy
                      exact (ownH_pair ho ho2 (hr2 k o (by simp) _ (callerId_mem hcid) hst)).2.2 v r
                    | succ i => exact g3 ρ1 ρ2 (fun x c' o' hm' => hr x c' o' (by simp [hm'])) (fun k' o' hm' => hr2 k' o' (by simp [hm'])) i v x y (by simpa using hx) (by simpa using hy) r
                · cases e2
              · cases e1
            · cases e1
          | false =>
            simp only [hs, cond_false, cellId] at e1 e2
            split at e1
            · rename_i hd o ho
              split at e2
              · rename_i hd2 o2x ho2
                cases e1; cases e2
                refine ⟨by simp [l1], by simp [l2], fun x c' o' hm' => ?_, fun x o' hm' => ?_, fun ρ1 ρ2 hr hr2 i v x y hx hy r => ?_⟩
                · rcases List.mem_cons.1 hm' with e | hm'
                  · cases e
                    obtain ⟨e', hb, _⟩ := ownH_pair (h := h) ho ho2 (ρ1 := fun _ => noLoc) (ρ2 := fun _ => noLoc) rfl
                    subst e'
                    exact ⟨by simp, hb⟩
                  · obtain ⟨q1, q2⟩ := g1 x c' o' hm'
                    exact ⟨List.mem_cons_of_mem _ q1, q2⟩
                · obtain ⟨c', q1, q2, q3, q4⟩ := g2 x o' hm'
                  exact ⟨c', q1, List.mem_cons_of_mem _ q2, q3, q4⟩
                · cases i with
                  | zero =>
                    simp at hx hy; subst hx; subst hy
                    exact (ownH_pair ho ho2 (hr (id + 1 + j) (pid + 1 + j) o (by simp))).2.2 v r
                  | succ i => exact g3 ρ1 ρ2 (fun x c' o' hm' => hr x c' o' (by simp [hm'])) hr2 i v x y (by simpa using hx) (by simpa using hy) r
              · cases e2
            · cases e1
        | false =>
          simp only [hm, cond_false] at e1 e2
          cases e1; cases e2
          refine ⟨by simp [l1], by simp [l2], g1, g2, fun ρ1 ρ2 hr hr2 i v x y hx hy r => ?_⟩
          cases i with
          | zero => simp at hx hy; subst hx; subst hy; exact .pure _ _ (r.toPure hp.1)
          | succ i => exact g3 ρ1 ρ2 hr hr2 i v x y (by simpa using hx) (by simpa using hy) r

end

theorem idOK_big {k r : Nat} (hr : r = 0 ∨ (64 ≤ r ∧ r < 128)) : idOK (pId k + r) = false := by
  have h1 : Nat.blt (1048576 + 128 * k + r) 1048576 = false := by
    cases hb : Nat.blt (1048576 + 128 * k + r) 1048576
    · rfl
    · have := Nat.le_of_ble_eq_true hb; omega
  have h2 : (1048576 + 128 * k + r) % 128 = r := by omega
  have h3 : (Nat.beq r 0 || Nat.ble 64 r) = true := by
    rcases hr with rfl | ⟨hr, _⟩
    · rfl
    · rw [Nat.ble_eq_true_of_le hr, Bool.or_true]
  unfold idOK pId
  rw [h1, h2, h3]
  rfl

theorem idOK_pId (k : Nat) : idOK (pId k) = false := idOK_big (r := 0) (.inl rfl)

theorem stayOK_mem {l : List (Option Nat × Nat)} {ids : List Nat} (h : stayOK l ids = true) {id : Nat} (hid : id ∈ ids) : (some id, id) ∈ l := by
  unfold stayOK at h
  have h1 := List.all_eq_true.1 h id hid
  obtain ⟨⟨o, c⟩, hm, h2⟩ := List.any_eq_true.1 h1
  simp only [Bool.and_eq_true] at h2
  have e2 : c = id := Nat.eq_of_beq_eq_true h2.2
  subst e2
  cases o with
  | none => cases h2.1
  | some k =>
    have e1 : k = c := Nat.eq_of_beq_eq_true h2.1
    subst e1
    exact hm

theorem staysC_get {id c : Nat} {ms : List Bool} (h : c ∈ staysC id ms) : ∃ j, j < 64 ∧ c = id + 64 + j := by
  unfold staysC at h
  cases hb : Nat.ble ms.length 64 with
  | true => rw [hb] at h; cases h
  | false =>
    rw [hb, cond_false] at h
    obtain ⟨j, h1, h2⟩ := List.mem_filterMap.1 h
    refine ⟨j, by simpa using h1, ?_⟩
    cases hc : (ms.drop j).headD false && stayH (ms.drop j) with
    | true => rw [hc, cond_true] at h2; cases h2; rfl
    | false => rw [hc, cond_false] at h2; cases h2

theorem staysOf_get : ∀ (ms : List Md) (i : Nat) {c : Nat}, c ∈ staysOf i ms → ∃ k j, j < 64 ∧ c = pId k + (64 + j)
  | [], i, c, h => by cases h
  | .lend mm :: r, i, c, h => by
    rcases List.mem_append.1 h with h | h
    · obtain ⟨j, hj, e⟩ := staysC_get h
      exact ⟨i, j, hj, by omega⟩
    · exact staysOf_get r (i + 1) h
  | .pure :: r, i, c, h => staysOf_get r (i + 1) h
  | .own :: r, i, c, h => staysOf_get r (i + 1) h

theorem idOK_stay {ms : List Md} {i c : Nat} (h : c ∈ staysOf i ms) : idOK c = false := by
  obtain ⟨k, j, hj, rfl⟩ := staysOf_get ms i h
  exact idOK_big (.inr ⟨by omega, by omega⟩)

def lendN : List Md → Nat
  | [] => 0
  | .lend _ :: r => lendN r + 1
  | _ :: r => lendN r

theorem lentH_len : ∀ (ms : List Md) (i : Nat) (ss : List SV) (os : List (Nat × Ob)), lentH i ms ss = some os → ss.length = lendN ms
  | [], i, [], os, _ => rfl
  | [], i, _ :: _, os, e => by simp [lentH] at e
  | .lend ms :: r, i, [], os, e => by simp [lentH] at e
  | .lend ms :: r, i, s :: ss, os, e => by
    simp only [lentH] at e
    split at e
    · rename_i cs os' h2
      have := lentH_len r (i + 1) ss os' h2
      simp [lendN, this]
    · cases e
  | .pure :: r, i, ss, os, e => by simp only [lentH] at e; simpa [lendN] using lentH_len r (i + 1) ss os e
  | .own :: r, i, ss, os, e => by simp only [lentH] at e; simpa [lendN] using lentH_len r (i + 1) ss os e

theorem mdAt_drop : ∀ (ms : List Md) (i : Nat), (∃ m r, ms.drop i = m :: r ∧ mdAt ms i = m ∧ ms.drop (i + 1) = r) ∨ (ms.drop i = [] ∧ mdAt ms i = .pure ∧ ms.drop (i + 1) = [])
  | [], i => .inr ⟨by simp, by cases i <;> rfl, by simp⟩
  | m :: ms, 0 => .inl ⟨m, ms, rfl, rfl, rfl⟩
  | m :: ms, i + 1 => by simpa [mdAt] using mdAt_drop ms i

theorem lentTypes_len (P : Program) (ms : List Md) : ∀ (ts : List TypeId) (i : Nat), ms.length ≤ i + ts.length → (lentTypes P ms i ts).length = lendN (ms.drop i)
  | [], i, h => by
    have : ms.drop i = [] := List.drop_of_length_le (by simpa using h)
    simp [lentTypes, this, lendN]
  | t :: ts, i, h => by
    have ih := lentTypes_len P ms ts (i + 1) (by simp at h; omega)
    simp only [lentTypes]
    rcases mdAt_drop ms i with ⟨m, r, e1, e2, e3⟩ | ⟨e1, e2, e3⟩
    · rw [e1, e2]
      rw [e3] at ih
      cases m <;> simp [lendN, ih]
    · rw [e1, e2]
      rw [e3] at ih
      simp [lendN] at ih ⊢
      exact ih

theorem argsH_len (idf : Nat → Nat) (ms : List Md) : ∀ (ss : List SV) (i : Nat) (hs : List SV) (os : List (Nat × Ob)), argsH idf ms i ss = some (hs, os) → hs.length = ss.length
  | [], i, hs, os, e => by simp [argsH] at e; obtain ⟨rfl, rfl⟩ := e; rfl
  | s :: ss, i, hs, os, e => by
    simp only [argsH] at e
    split at e
    · rename_i hd o hs' os' h1 h2
      cases e
      simp [argsH_len idf ms ss (i + 1) hs' os' h2]
    · cases e

theorem passArgs_len (P : Program) (objs : List (Nat × Ob)) (idf : Nat → Nat) (ms : List Md) : ∀ (ts : List TypeId) (ss : List SV) (i : Nat) (ds : List SV) (ids : List (Option Nat × Nat)), passArgs P objs idf ms i ts ss = some (ds, ids) → ts.length = ss.length
  | [], [], i, ds, ids, e => rfl
  | [], _ :: _, i, ds, ids, e => by simp [passArgs] at e
  | _ :: _, [], i, ds, ids, e => by simp [passArgs] at e
  | t :: ts, s :: ss, i, ds, ids, e => by
    simp only [passArgs] at e
    split at e
    · rename_i d l ds' ls h1 h2
      simp [passArgs_len P objs idf ms ts ss (i + 1) ds' ls h2]
    · cases e

theorem mem_oget {l : List (Nat × Ob)} {c : Nat} {o : Ob} (h : (c, o) ∈ l) : ∃ o', oget l c = some o' := by
  induction l with
  | nil => simp at h
  | cons x xs ih =>
    obtain ⟨k, p⟩ := x
    rw [oget_cons]
    by_cases e : k = c
    · exact ⟨p, by simp [e]⟩
    · rw [if_neg e]
      rcases List.mem_cons.1 h with e' | h
      · cases e'; exact absurd rfl e
      · exact ih h

theorem passOwn_touch {objs : List (Nat × Ob)} {cid : Nat} {s d : SV} {ids : List (Option Nat × Nat)} (e : passOwn objs cid s = some (d, ids)) : ∀ id c, (some id, c) ∈ ids → s = .osl id ∨ s = .omp id := by
  intro id c hm
  unfold passOwn at e
  split at e
  · split at e
    · cases e; simp at hm; exact .inl (by rw [hm.1])
    · cases e
  · split at e
    · cases e; simp at hm; exact .inr (by rw [hm.1])
    · cases e
  · cases e; simp at hm
  · cases e

theorem passCells_touch {objs : List (Nat × Ob)} (cid : Nat) : ∀ (cs : List SV) (j : Nat) (ms : List Bool) (ds : List SV) (ids : List (Option Nat × Nat)), passCells objs cid j ms cs = some (ds, ids) → ∀ id c, (some id, c) ∈ ids → .osl id ∈ cs ∨ .omp id ∈ cs
  | [], j, ms, ds, ids, e, id, c, hm => by simp [passCells] at e; obtain ⟨rfl, rfl⟩ := e; simp at hm
  | x :: cs, j, ms, ds, ids, e, id, c, hm => by
    simp only [passCells] at e
    split at e
    · rename_i d l ds' ls h1 h2
      cases e
      rcases List.mem_append.1 hm with hm | hm
      · cases hmm : ms.headD false with
        | true =>
          simp only [hmm, cond_true] at h1
          rcases passOwn_touch h1 id c hm with e | e
          · exact .inl (by simp [e])
          · exact .inr (by simp [e])
        | false =>
          simp only [hmm, cond_false] at h1
          cases hp : pureCell x with
          | none => simp [hp] at h1
          | some y => simp [hp] at h1; rw [h1.2] at hm; simp at hm
      · rcases passCells_touch cid cs (j + 1) ms.tail ds' ls h2 id c hm with e | e
        · exact .inl (by simp [e])
        · exact .inr (by simp [e])
    · cases e

theorem mem_ownIdsL : ∀ (cs : List SV) (id : Nat), .osl id ∈ cs → id ∈ ownIdsL cs
  | [], id, h => by simp at h
  | c :: cs, id, h => by
    simp only [ownIdsL, List.mem_append]
    rcases List.mem_cons.1 h with e | h
    · rw [← e]; exact .inl (by simp [ownIds])
    · exact .inr (mem_ownIdsL cs id h)

theorem passArg_touch {objs : List (Nat × Ob)} {cid : Nat} {m : Md} {s d : SV} {ids : List (Option Nat × Nat)} (e : passArg objs cid m s = some (d, ids)) : ∀ id c, (some id, c) ∈ ids → id ∈ touchArg objs m s := by
  intro id c hm
  unfold passArg at e
  cases m with
  | pure => simp at e; obtain ⟨x, _, _, rfl⟩ := e; simp at hm
  | own =>
    simp only [] at e
    rcases passOwn_touch e id c hm with rfl | rfl
    · simp [touchArg]
    · simp [touchArg]
  | lend ms =>
    simp only [] at e
    split at e
    · rename_i id0
      split at e
      · rename_i cs ho
        simp at e
        obtain ⟨ds, ids', hpc, rfl, rfl⟩ := e
        simp only [touchArg, ho]
        rcases List.mem_cons.1 hm with e | hm
        · cases e; simp
        · rcases passCells_touch cid cs 0 ms ds ids' hpc id c hm with e | e
          · simp [mem_ownIdsL cs id e]
          · refine List.mem_cons_of_mem _ (List.mem_append_right _ (List.mem_filterMap.2 ⟨_, e, rfl⟩))
      · cases e
    · cases e

theorem passArgs_touch (P : Program) (objs : List (Nat × Ob)) (idf : Nat → Nat) (ms : List Md) : ∀ (ts : List TypeId) (ss : List SV) (i : Nat) (ds : List SV) (ids : List (Option Nat × Nat)), passArgs P objs idf ms i ts ss = some (ds, ids) →
    ∀ id c, (some id, c) ∈ ids → id ∈ touchArgs objs ms i ss
  | [], [], i, ds, ids, e, id, c, hm => by simp [passArgs] at e; obtain ⟨rfl, rfl⟩ := e; simp at hm
  | [], _ :: _, i, ds, ids, e, _, _, _ => by simp [passArgs] at e
  | _ :: _, [], i, ds, ids, e, _, _, _ => by simp [passArgs] at e
  | t :: ts, s :: ss, i, ds, ids, e, id, c, hm => by
    simp only [passArgs] at e
    split at e
    · rename_i d l ds' ls h1 h2
      cases e
      simp only [touchArgs, List.mem_append]
      rcases List.mem_append.1 hm with hm | hm
      · exact .inl (passArg_touch h1 id c hm)
      · exact .inr (passArgs_touch P objs idf ms ts ss (i + 1) ds' ls h2 id c hm)
    · cases e

section
variable {X : Cx} {h h' : Hp} {ρ : Nat → Loc} {st : St} {a : Act} {w w' : World} {P : Program}

/-- Results under other numbers. -/
theorem argsH_pair (f1 f2 : Nat → Nat) (ms : List Md) (hms : ms.all Md.noLend = true) : ∀ (ss : List SV) (i : Nat) (h1 h2 : List SV) (o1 o2 : List (Nat × Ob)), pureDatL ss = true → argsH f1 ms i ss = some (h1, o1) → argsH f2 ms i ss = some (h2, o2) →
    (∀ c o, (c, o) ∈ o1 → ∃ k, c = f1 k ∧ (f2 k, o) ∈ o2 ∧ ∀ x, o ≠ .box x) ∧
    ∀ ρ1 ρ2 : Nat → Loc, (∀ k o, (f1 k, o) ∈ o1 → ρ1 (f1 k) = ρ2 (f2 k)) → ∀ (k : Nat) v x y, h1[k]? = some x → h2[k]? = some y → Rep h ρ2 v y → Rep h ρ1 v x
  | [], i, h1, h2, o1, o2, _, e1, e2 => by
    simp [argsH] at e1 e2
    obtain ⟨rfl, rfl⟩ := e1; obtain ⟨rfl, rfl⟩ := e2
    exact ⟨by simp, by simp⟩
  | s :: ss, i, h1, h2, o1, o2, hp, e1, e2 => by
    simp only [pureDatL, Bool.and_eq_true] at hp
    simp only [argsH] at e1 e2
    split at e1
    · rename_i hd o hs1 os1 g1 g2
      split at e2
      · rename_i hd' o' hs2 os2 g1' g2'
        cases e1; cases e2
        obtain ⟨q1, q2⟩ := argsH_pair f1 f2 ms hms ss (i + 1) hs1 hs2 os1 os2 hp.2 g2 g2'
        have hml : mdAt ms i = .pure ∨ mdAt ms i = .own := by
          have : ∀ (ms : List Md) (i : Nat), ms.all Md.noLend = true → (mdAt ms i).noLend = true := by
            intro ms
            induction ms with
            | nil => intro i _; rfl
            | cons m ms ih =>
              intro i hm
              simp only [List.all_cons, Bool.and_eq_true] at hm
              cases i with
              | zero => exact hm.1
              | succ i => exact ih i hm.2
          have := this ms i hms
          cases hm : mdAt ms i <;> simp [hm, Md.noLend] at this <;> simp
        rcases hml with hm | hm
        · simp only [hm, argH] at g1 g1'
          cases g1; cases g1'
          refine ⟨by simpa using q1, fun ρ1 ρ2 hr k v x y hx hy r => ?_⟩
          cases k with
          | zero => simp at hx hy; subst hx; subst hy; exact .pure _ _ (r.toPure hp.1)
          | succ k => exact q2 ρ1 ρ2 (by simpa using hr) k v x y (by simpa using hx) (by simpa using hy) r
        · simp only [hm, argH] at g1 g1'
          split at g1
          · rename_i hd1 ob1 hh1
            split at g1'
            · rename_i hd2 ob2 hh2
              cases g1; cases g1'
              refine ⟨fun c o hm' => ?_, fun ρ1 ρ2 hr k v x y hx hy r => ?_⟩
              · rcases List.mem_append.1 hm' with hm' | hm'
                · simp at hm'
                  obtain ⟨rfl, rfl⟩ := hm'
                  obtain ⟨e', hb, _⟩ := ownH_pair (h := h) hh1 hh2 (ρ1 := fun _ => noLoc) (ρ2 := fun _ => noLoc) rfl
                  subst e'
                  exact ⟨i, rfl, by simp, hb⟩
                · obtain ⟨k, e, hm2, hb⟩ := q1 c o hm'
                  exact ⟨k, e, by simp [hm2], hb⟩
              · cases k with
                | zero => simp at hx hy; subst hx; subst hy; exact (ownH_pair hh1 hh2 (hr i ob1 (by simp))).2.2 v r
                | succ k => exact q2 ρ1 ρ2 (fun k o hm => hr k o (by simp [hm])) k v x y (by simpa using hx) (by simpa using hy) r
            · cases g1'
          · cases g1
      · cases e2
    · cases e1

/-- Lent boxes under other numbers. -/
theorem lentBack_pair (ps : List (Option Nat × Nat)) : ∀ (ms : List Md) (i : Nat) (ss : List SV) (os : List (Nat × Ob)) (im : List (Nat × Nat × Ob)) (bx : List (Nat × Ob)), pureDatL ss = true → lentH i ms ss = some os → lentBack ps i ms ss = some (im, bx) →
    (∀ x c o, (x, c, o) ∈ im → (c, o) ∈ os ∧ ∀ y, o ≠ .box y) ∧
    (∀ id o, (id, o) ∈ bx → (∃ k mm cs1 cs2, (some id, pId (i + k)) ∈ ps ∧ ms[k]? = some (.lend mm) ∧ o = .box cs1 ∧ (pId (i + k), .box cs2) ∈ os ∧ cs1.length = cs2.length ∧
      ∀ ρ1 ρ2 : Nat → Loc, (∀ x c o, (x, c, o) ∈ im → ρ1 x = ρ2 c) → (∀ k o, (k, o) ∈ bx → ∀ c, (some k, c) ∈ ps → c ∈ staysOf i ms → ρ1 k = ρ2 c) → ∀ (j : Nat) v x y, cs1[j]? = some x → cs2[j]? = some y → Rep h ρ2 v y → Rep h ρ1 v x) ∨
      (∃ c, (some id, c) ∈ ps ∧ (c, o) ∈ os ∧ c ∈ staysOf i ms ∧ ∀ y, o ≠ .box y))
  | [], i, [], os, im, bx, _, e1, e2 => by simp [lentBack] at e2; obtain ⟨rfl, rfl⟩ := e2; exact ⟨by simp, by simp⟩
  | [], i, _ :: _, os, im, bx, _, e1, e2 => by simp [lentH] at e1
  | .lend mm :: r, i, [], os, im, bx, _, e1, e2 => by simp [lentH] at e1
  | .lend mm :: r, i, s :: ss, os, im, bx, hp, e1, e2 => by
    simp only [pureDatL, Bool.and_eq_true] at hp
    simp only [lentH] at e1
    simp only [lentBack] at e2
    split at e1
    · rename_i cs os' h1
      split at e1
      · rename_i cs2 o2 hl2
        cases e1
        split at e2
        · rename_i cs' id im' bx' hcs hcid hlb
          cases hcs
          split at e2
          · rename_i cs1 imc sx hl1
            cases e2
            have hpc : pureDatL cs = true := by simpa [pureDat] using hp.1
            obtain ⟨l1, l2, g1, g2, g3⟩ := backCells_pair (h := h) ps (pId i) id mm cs 0 cs1 cs2 imc sx o2 hpc hl1 hl2
            obtain ⟨q1, q2⟩ := lentBack_pair ps r (i + 1) ss os' im' bx' hp.2 h1 hlb
            refine ⟨fun x c o hm => ?_, fun id' o hm => ?_⟩
            · rcases List.mem_append.1 hm with hm | hm
              · obtain ⟨t1, t2⟩ := g1 x c o hm
                exact ⟨by simp [t1], t2⟩
              · obtain ⟨t1, t2⟩ := q1 x c o hm
                exact ⟨by simp [t1], t2⟩
            · simp only [List.cons_append, List.mem_cons, List.mem_append] at hm
              rcases hm with e | hm | hm
              · cases e
                refine .inl ⟨0, mm, cs1, cs2, callerId_mem hcid, rfl, rfl, by simp, by omega, fun ρ1 ρ2 hr hr2 j v x y hx hy rr => ?_⟩
                exact g3 ρ1 ρ2 (fun x c o hm => hr x c o (by simp [hm])) (fun k o hm c hc hs => hr2 k o (by simp [hm]) c hc (List.mem_append_left _ hs)) j v x y hx hy rr
              · obtain ⟨c, t1, t2, t3, t4⟩ := g2 id' o hm
                exact .inr ⟨c, t1, by simp [t2], List.mem_append_left _ t3, t4⟩
              · rcases q2 id' o hm with ⟨k, mm', c1, c2, t1, t2, t3, t4, t5, t6⟩ | ⟨c, t1, t2, t3, t4⟩
                · exact .inl ⟨k + 1, mm', c1, c2, by rw [show i + (k + 1) = i + 1 + k by omega]; exact t1, by simpa using t2, t3, by rw [show i + (k + 1) = i + 1 + k by omega]; simp [t4], t5, fun ρ1 ρ2 hr hr2 => t6 ρ1 ρ2 (fun x c o hm => hr x c o (by simp [hm])) (fun k o hm c hc hs => hr2 k o (by simp [hm]) c hc (List.mem_append_right _ hs))⟩
                · exact .inr ⟨c, t1, by simp [t2], List.mem_append_right _ t3, t4⟩
          · cases e2
        · cases e2
      · cases e1
    · cases e1
  | .pure :: r, i, ss, os, im, bx, hp, e1, e2 => by
    obtain ⟨q1, q2⟩ := lentBack_pair ps r (i + 1) ss os im bx hp (by simpa [lentH] using e1) (by simpa [lentBack] using e2)
    refine ⟨q1, fun id o hm => ?_⟩
    rcases q2 id o hm with ⟨k, mm', c1, c2, t1, t2, t3, t4, t5, t6⟩ | ⟨c, t1, t2, t3, t4⟩
    · exact .inl ⟨k + 1, mm', c1, c2, by rw [show i + (k + 1) = i + 1 + k by omega]; exact t1, by simpa using t2, t3, by rw [show i + (k + 1) = i + 1 + k by omega]; exact t4, t5, t6⟩
    · exact .inr ⟨c, t1, t2, t3, t4⟩
  | .own :: r, i, ss, os, im, bx, hp, e1, e2 => by
    obtain ⟨q1, q2⟩ := lentBack_pair ps r (i + 1) ss os im bx hp (by simpa [lentH] using e1) (by simpa [lentBack] using e2)
    refine ⟨q1, fun id o hm => ?_⟩
    rcases q2 id o hm with ⟨k, mm', c1, c2, t1, t2, t3, t4, t5, t6⟩ | ⟨c, t1, t2, t3, t4⟩
    · exact .inl ⟨k + 1, mm', c1, c2, by rw [show i + (k + 1) = i + 1 + k by omega]; exact t1, by simpa using t2, t3, by rw [show i + (k + 1) = i + 1 + k by omega]; exact t4, t5, t6⟩
    · exact .inr ⟨c, t1, t2, t3, t4⟩

theorem one_rep {ρ2 : Nat → Loc} : ∀ (vr : List Value) (os : List SV), vr.length = os.length → (∀ (k : Nat) v s, vr[k]? = some v → os[k]? = some s → Rep h ρ2 v s) → Rep h ρ2 (rets vr) (one os)
  | [], [], _, _ => .tup #[] [] rfl (by simp)
  | [v], [s], _, hr => hr 0 v s rfl rfl
  | [], _ :: _, hl, _ => by simp at hl
  | _ :: _, [], hl, _ => by simp at hl
  | [_], _ :: _ :: _, hl, _ => by simp at hl
  | _ :: _ :: _, [_], hl, _ => by simp at hl
  | v :: v' :: vs, s :: s' :: ss, hl, hr => .tup _ _ (by simpa using hl) (fun i u c hu hc => hr i u c (by simpa using hu) hc)

theorem pureDatL_take : ∀ (n : Nat) (l : List SV), pureDatL l = true → pureDatL (l.take n) = true ∧ pureDatL (l.drop n) = true
  | 0, l, h => ⟨by simp [pureDatL], by simpa using h⟩
  | n + 1, [], h => ⟨by simp [pureDatL], by simp [pureDatL]⟩
  | n + 1, c :: cs, h => by
    simp only [pureDatL, Bool.and_eq_true] at h
    obtain ⟨a, b⟩ := pureDatL_take n cs h.2
    exact ⟨by simp [pureDatL, h.1, a], by simpa using b⟩

theorem allVal_get : ∀ {l : List SV}, allVal l = true → ∀ (i : Nat) s, l[i]? = some s → ∃ v, s = .val v
  | [], _, i, s, e => by simp at e
  | .val v :: l, h, 0, s, e => by simp at e; exact ⟨v, e.symm⟩
  | .val v :: l, h, i + 1, s, e => allVal_get (by simpa [allVal] using h) i s (by simpa using e)
  | .agg _ :: l, h, i, s, e => by simp [allVal] at h
  | .tup _ :: l, h, i, s, e => by simp [allVal] at h
  | .slice .. :: l, h, i, s, e => by simp [allVal] at h
  | .mapv _ :: l, h, i, s, e => by simp [allVal] at h
  | .ref .. :: l, h, i, s, e => by simp [allVal] at h
  | .clo .. :: l, h, i, s, e => by simp [allVal] at h
  | .ifc .. :: l, h, i, s, e => by simp [allVal] at h
  | .ptr .. :: l, h, i, s, e => by simp [allVal] at h
  | .bsl .. :: l, h, i, s, e => by simp [allVal] at h
  | .osl _ :: l, h, i, s, e => by simp [allVal] at h
  | .eptr .. :: l, h, i, s, e => by simp [allVal] at h
  | .omp _ :: l, h, i, s, e => by simp [allVal] at h
  | .gd .. :: l, h, i, s, e => by simp [allVal] at h
  | .unk :: l, h, i, s, e => by simp [allVal] at h

def Goes (X : Cx) (K : St → Prop) (a : Act) (w : World) : Prop := ∃ st, Fits X st a w ∧ K st

theorem argsH_pureAll (idf : Nat → Nat) : ∀ (ss : List SV) (i : Nat), argsH idf [] i ss = some (ss, [])
  | [], i => rfl
  | s :: ss, i => by simp [argsH, mdAt, argH, argsH_pureAll idf ss (i + 1)]

theorem call_sound {h0 : Hp} {st0 : St} (F0 : FitsAt X h0 ρ st0 a w) (F : FitsAt X h ρ st a w) (hle0 : HLe h0 h) (f : FuncId) (sg : Sig) (pts rts : List TypeId) (ss caps : List SV) (vs cv : Array Value) (dst : Option Nat) (K : St → Prop)
    (hl : vs.size = ss.length) (hr : ∀ (i : Nat) v s, vs[i]? = some v → ss[i]? = some s → Rep h ρ v s) (hcl : cv.size = caps.length) (hcr : ∀ (i : Nat) v s, cv[i]? = some v → caps[i]? = some s → PRep h v s)
    (hc : callC P f sg pts rts ss caps dst st0 st K) :
    (callFunc f (vs ++ cv)).run P w = .ok (.enter f (vs ++ cv)) w ∧
    Calls P f (vs ++ cv) w fun e w'' => ∃ v, e = .returned v ∧ Goes X K (a.put dst v) w'' ∧ w.heap.size ≤ w''.heap.size ∧
      ∀ b, b < w.heap.size → (∀ id ∈ touchArgs st.objs sg.ps 0 ss, live st.objs ρ id → (ρ id).blk ≠ b) → w''.heap[b]? = w.heap[b]? := by
  unfold callC at hc
  split at hc
  · exact hc.elim
  · rename_i as ps hpass
    cases hb : (nodupB (ps.filterMap (·.1)) && nodupB (ps.map (·.2)) && Nat.ble sg.ps.length pts.length && sg.rs.all Md.noLend) with
    | false => simp only [hb, cond_false] at hc
    | true =>
      simp only [hb, cond_true] at hc
      simp only [Bool.and_eq_true] at hb
      obtain ⟨⟨⟨hn1, hn2⟩, hble⟩, hnl⟩ := hb
      have hn1 := nodupB_spec hn1
      have hn2 := nodupB_spec hn2
      have hble := Nat.le_of_ble_eq_true hble
      obtain ⟨Q, ⟨⟨fn, hf, hbody, hname⟩, hct⟩, hq⟩ := hc
      refine ⟨?_, ?_⟩
      · simp [callFunc, hf, hname]
        intro hnone
        simp [hnone] at hbody
      · let ρc := pull ps ρ (fun _ => noLoc)
        have hpl : Pulls ps ρ ρc := pulls_pull ρ _ hn2
        obtain ⟨hs, os, e1, e2, e3, e4, e5⟩ := passArgs_sound (P := P) (ρ' := ρc) F.obj pId sg.ps pts ss 0 as ps hpass hpl
        have hlen := passArgs_len _ _ _ _ _ _ _ _ _ hpass
        have e6 := argsH_append pId sg.ps as caps 0 hs os e1 (by omega)
        have hH : Holds h ρc os w := pass_holds e5 hpl hn1 F.sub F.inj
        have hGb : ∀ b, Gv os ρc b → ∃ id, id ∈ touchArgs st.objs sg.ps 0 ss ∧ (∃ c, (some id, c) ∈ ps) ∧ live st.objs ρ id ∧ (ρ id).blk = b := fun b hg => by
          obtain ⟨id, c, hm, hlv, e⟩ := pass_Gv e5 hpl hg
          exact ⟨id, passArgs_touch P st.objs pId sg.ps pts ss 0 as ps hpass id c hm, ⟨c, hm⟩, hlv, e⟩
        have hGx : ∀ b, Gv os ρc b → X.w.heap.size ≤ b ∨ X.G b := fun b hg => by
          obtain ⟨id, _, _, hlv, rfl⟩ := hGb b hg
          exact F.own id hlv
        refine (hct (hs ++ caps) os e6 h ρc w (vs ++ cv) hH F.glob ⟨by simp; omega, fun i v s hv hs' => ?_⟩).mono ?_
        · simp only [Array.toList_append] at hv
          rw [List.getElem?_append] at hv hs'
          simp only [Array.length_toList] at hv
          have : hs.length = vs.size := by omega
          rw [this] at hs'
          split at hv
          · rename_i hlt
            rw [if_pos hlt] at hs'
            have hi : i < ss.length := by omega
            exact e4 i v _ s (List.getElem?_eq_getElem hi) hs' (hr i v _ (by simpa using hv) (List.getElem?_eq_getElem hi))
          · rename_i hlt
            rw [if_neg hlt] at hs'
            exact .pure _ _ (hcr _ v s (by simpa using hv) hs')
        · rintro e w'' ⟨vr, h', ρ2, rs, hr', objs', rfl, hQ, hend, hrep, hhold, hown, hlent, hle, hext, hkp⟩
          have hblk : ∀ b, b < w.heap.size → (∀ id ∈ touchArgs st.objs sg.ps 0 ss, live st.objs ρ id → (ρ id).blk ≠ b) → w''.heap[b]? = w.heap[b]? := fun b hlt hno => hkp.block b hlt fun hg => by
            obtain ⟨id, h1, _, hlv, e⟩ := hGb b hg
            exact hno id h1 hlv e
          refine ⟨_, rfl, ?_, hkp.size, hblk⟩
          obtain ⟨xs, hxl, hxp, rfl, hrest⟩ := shapeRL_get _ _ _ (hq rs hQ)
          unfold endH at hend
          split at hend
          · rename_i hs1 os1 os2 ha hlh
            cases hend
            have l1 := argsH_len _ _ _ _ _ _ ha
            have l2 := lentH_len _ _ _ _ hlh
            have l3 := lentTypes_len P sg.ps pts 0 (by omega)
            simp only [List.drop_zero] at l3
            simp only [List.length_append, l3] at hxl
            simp at l1 l2
            have l4 := hrep.1
            have hn : vr.length = rts.length := by omega
            rw [hn] at ha hlh
            obtain ⟨hpt, hpd⟩ := pureDatL_take rts.length rs hxp
            cases hbor : (ps.isEmpty && sg.rs.isEmpty && allVal rs) with
            | true =>
              simp only [hbor, cond_true] at hrest
              simp only [Bool.and_eq_true, List.isEmpty_iff] at hbor
              obtain ⟨⟨hps, hrs⟩, hav⟩ := hbor
              have hos : os = [] := by
                cases os with
                | nil => rfl
                | cons x xs =>
                  obtain ⟨p, hp, _⟩ := e5.at_ x.1 x.2 (by simp)
                  rw [hps] at hp; simp at hp
              subst hos
              have hnog : ∀ b, ¬ Gv [] ρc b := fun b ⟨i, ⟨⟨o, e⟩, _⟩, _⟩ => by simp [oget] at e
              have F1 : FitsAt X h0 ρ st0 a w'' := F0.called (Gv [] ρc) (fun i _ => hnog _) hGx hkp (HLe.refl h0) (fun b o v e => hhold.sub b o v (hle b o v (hle0 b o v e))) (fun _ _ _ _ e => e)
              refine ⟨_, ⟨h0, ρ, F1.put dst (TRep.of_rep' ?_)⟩, hrest⟩
              have hlN : lendN sg.ps = 0 := by
                have : ∀ (ts : List TypeId) (ss : List SV) (i : Nat) (ds : List SV), passArgs P st.objs pId sg.ps i ts ss = some (ds, []) → sg.ps.length ≤ i + ts.length → lendN (sg.ps.drop i) = 0 := by
                  intro ts
                  induction ts with
                  | nil =>
                    intro ss i ds e hle
                    rw [List.drop_of_length_le (by simpa using hle)]; rfl
                  | cons t ts ih =>
                    intro ss i ds e hle
                    cases ss with
                    | nil => simp [passArgs] at e
                    | cons s ss =>
                      simp only [passArgs] at e
                      split at e
                      · rename_i d l ds' ls g1 g2
                        simp at e
                        obtain ⟨_, rfl, rfl⟩ := e
                        have := ih ss (i + 1) ds' g2 (by simp at hle; omega)
                        rcases mdAt_drop sg.ps i with ⟨m, r, q1, q2, q3⟩ | ⟨q1, q2, q3⟩
                        · rw [q1]; rw [q3] at this
                          cases m with
                          | lend ms =>
                            rw [q2] at g1
                            unfold passArg at g1
                            simp only [] at g1
                            split at g1
                            · split at g1
                              · simp at g1
                              · cases g1
                            · cases g1
                          | pure => simpa [lendN] using this
                          | own => simpa [lendN] using this
                        · rw [q1]; rfl
                      · cases e
                have := this pts ss 0 as (by rw [hps] at hpass; exact hpass) (by omega)
                simpa using this
              have hfull : rs.take rts.length = rs := List.take_of_length_le (by omega)
              rw [hfull, hrs, argsH_pureAll] at ha
              cases ha
              refine one_rep vr rs hrep.1 (fun k v s hv hs' => ?_)
              obtain ⟨x, rfl⟩ := allVal_get hav k s hs'
              rw [(hrep.2 k v _ hv hs').val_inv]
              exact .pure _ _ (.val _)
            | false =>
              simp only [hbor, cond_false] at hrest
              split at hrest
              · rename_i im bx rr im' hlb hrb
                cases hck : (nodupB ((im ++ im').map (·.1) ++ bx.map (·.1)) && nodupB ((im ++ im').map (·.2.1)) && (im ++ im').all (fun p => idOK p.1 && idOK p.2.1)) with
                | false => simp only [hck, cond_false] at hrest
                | true =>
                  simp only [hck, cond_true] at hrest
                  simp only [Bool.and_eq_true, List.all_eq_true] at hck
                  obtain ⟨⟨hnd1, hnd2⟩, hidok⟩ := hck
                  have hnd1 := nodupB_spec hnd1
                  have hnd2 := nodupB_spec hnd2
                  obtain ⟨hndi, hndb, hdis⟩ := List.nodup_append.1 hnd1
                  -- what was handed over is gone, and the call has come back
                  obtain ⟨Fd, hdp⟩ := dropPassed_fits sg.ps ps F
                  have hliveD : ∀ i, live (dropPassed sg.ps ps st).objs ρ i → live st.objs ρ i ∧ ¬ Gv os ρc (ρ i).blk := by
                    rintro i ⟨⟨o, ho⟩, hni⟩
                    obtain ⟨ho', hnp⟩ := hdp i o ho
                    refine ⟨⟨ho', hni⟩, fun hg => ?_⟩
                    obtain ⟨id, _, ⟨c, hm⟩, hlv, e⟩ := hGb _ hg
                    by_cases hid : id = i
                    · subst hid; exact hnp c hm
                    · exact F.inj id i hlv ⟨ho', hni⟩ hid e
                  have Fc : FitsAt X h' ρ (dropPassed sg.ps ps st) a w'' := Fd.called (Gv os ρc) (fun i hi => (hliveD i hi).2) hGx hkp hle hhold.sub hext
                  -- the objects that come in
                  obtain ⟨q1, q2⟩ := lentBack_pair (h := h') ps sg.ps 0 (rs.drop rts.length) os2 im bx hpd hlh hlb
                  have hres : (∀ x c o, (x, c, o) ∈ im' → (c, o) ∈ os1 ∧ ∀ y, o ≠ .box y) ∧ ∀ ρ1 : Nat → Loc, (∀ x c o, (x, c, o) ∈ im' → ρ1 x = ρ2 c) → (dst = none ∧ rr = .unk) ∨ Rep h' ρ1 (rets vr) rr := by
                    unfold resBack at hrb
                    split at hrb
                    · cases hrb; exact ⟨by simp, fun ρ1 _ => .inl ⟨rfl, rfl⟩⟩
                    · rename_i d
                      split at hrb
                      · rename_i hs2 os3 ha2
                        cases hrb
                        obtain ⟨t1, t2⟩ := argsH_pair (h := h') (cId d) rId sg.rs hnl _ 0 hs2 hr' os3 os1 hpt ha2 ha
                        refine ⟨fun x c o hm => ?_, fun ρ1 hr1 => .inr ?_⟩
                        · simp only [List.mem_map] at hm
                          obtain ⟨p, hpm, e⟩ := hm
                          cases e
                          obtain ⟨k, e, hm2, hb⟩ := t1 p.1 p.2 hpm
                          have : p.1 - cId d 0 = k := by rw [e]; simp [cId]
                          rw [this]
                          exact ⟨hm2, hb⟩
                        · refine one_rep vr hs2 ?_ (fun k v s hv hs' => ?_)
                          · rw [hrep.1, argsH_len _ _ _ _ _ _ ha, argsH_len _ _ _ _ _ _ ha2]
                          · have hk : k < hr'.length := by
                              have := (List.getElem?_eq_some_iff.1 hv).1
                              rw [← hrep.1]; exact this
                            refine t2 ρ1 ρ2 (fun k o hm => ?_) k v s _ hs' (List.getElem?_eq_getElem hk) (hrep.2 k v _ hv (List.getElem?_eq_getElem hk))
                            have := hr1 (cId d k) (rId (cId d k - cId d 0)) o (List.mem_map.2 ⟨_, hm, rfl⟩)
                            rw [this]
                            congr 2
                            simp [cId]
                      · cases hrb
                  obtain ⟨q3, q4⟩ := hres
                  have hmem : ∀ x c o, (x, c, o) ∈ im ++ im' → (c, o) ∈ os1 ++ os2 ∧ ∀ y, o ≠ .box y := fun x c o hm => by
                    rcases List.mem_append.1 hm with hm | hm
                    · exact ⟨by simp [(q1 x c o hm).1], (q1 x c o hm).2⟩
                    · exact ⟨by simp [(q3 x c o hm).1], (q3 x c o hm).2⟩
                  have hliveO : ∀ c o, (c, o) ∈ os1 ++ os2 → (ρ2 c).none = false → live (os1 ++ os2) ρ2 c := fun c o hm hn' => ⟨mem_oget hm, hn'⟩
                  -- blocks that come back are other ones than those that stayed
                  have hnewblk : ∀ c o, (c, o) ∈ os1 ++ os2 → (ρ2 c).none = false → (X.w.heap.size ≤ (ρ2 c).blk ∨ X.G (ρ2 c).blk) ∧ ∀ k, live (dropPassed sg.ps ps st).objs ρ k → (ρ k).blk ≠ (ρ2 c).blk := fun c o hm hn' => by
                    have ho := hown c (hliveO c o hm hn')
                    refine ⟨?_, fun k hk e => ?_⟩
                    · rcases ho with ho | ho
                      · exact .inl (Nat.le_trans F.kp.size ho)
                      · exact hGx _ ho
                    · obtain ⟨hk1, hk2⟩ := hliveD k hk
                      rcases ho with ho | ho
                      · obtain ⟨⟨o', ho'⟩, hnk⟩ := hk1
                        have := ObOK.blk_lt (F.obj k o' ho') hnk
                        omega
                      · rw [← e] at ho; exact hk2 ho
                  obtain ⟨ρf, Ff, g1, g2, g3⟩ := bindAll_fits ρ2 (im ++ im') Fc hndi (fun i c o hm => ⟨(by have := hidok (i, c, o) hm; simp only at this; exact this.1), hhold.obj c o (hmem i c o hm).1, (hmem i c o hm).2, hnewblk c o (hmem i c o hm).1⟩) (fun i c o i' c' o' m1 m2 hne n1 n2 => by
                    have hcc : c ≠ c' := fun e => by
                      subst e
                      have : ∀ (l : List (Nat × Nat × Ob)), (l.map (·.2.1)).Nodup → (i, c, o) ∈ l → (i', c, o') ∈ l → i = i' := by
                        intro l
                        induction l with
                        | nil => intro _ h1; simp at h1
                        | cons p l ih =>
                          intro hnd h1 h2
                          simp only [List.map_cons, List.nodup_cons] at hnd
                          rcases List.mem_cons.1 h1 with e1 | h1'
                          · rcases List.mem_cons.1 h2 with e2 | h2'
                            · rw [← e1] at e2; cases e2; rfl
                            · exfalso; apply hnd.1; rw [← e1]; exact List.mem_map.2 ⟨_, h2', rfl⟩
                          · rcases List.mem_cons.1 h2 with e2 | h2'
                            · exfalso; apply hnd.1; rw [← e2]; exact List.mem_map.2 ⟨_, h1', rfl⟩
                            · exact ih hnd.2 h1' h2'
                      exact hne (this _ hnd2 m1 m2)
                    exact hhold.inj c c' (hliveO c o (hmem i c o m1).1 n1) (hliveO c' o' (hmem i' c' o' m2).1 n2) hcc)
                  have hrho : ∀ x c o, (x, c, o) ∈ im → ρf x = ρ2 c := fun x c o hm => g1 x c o (by simp [hm])
                  -- the boxes
                  have hfid : ∀ id o, (id, o) ∈ bx → ρf id = ρ id := fun id o hm => g2 id (fun p hp e => hdis p.1 (List.mem_map_of_mem (f := (·.1)) hp) id (List.mem_map_of_mem (f := (·.1)) hm) e)
                  have hstay : ∀ k c, (some k, c) ∈ ps → c ∈ staysOf 0 sg.ps → ρ2 c = ρ k := fun k c hk hc => (hlent.2 c hc).trans (hpl (some k, c) hk)
                  have hbx : ∀ id o, (id, o) ∈ bx → ∃ c o2, (some id, c) ∈ ps ∧ (c, o2) ∈ os2 ∧ idOK c = false ∧ ((ρ id).none = false → (ρ2 c).blk = (ρ id).blk ∧ (ρ2 c).none = false) ∧ ObOK h' ρf w'' id o := fun id o hm => by
                    have hf := hfid id o hm
                    rcases q2 id o hm with ⟨k, mm, cs1, cs2, t1, t2, rfl, t4, t5, t6⟩ | ⟨c, t1, t2, t3, t4⟩
                    · rw [Nat.zero_add] at t1 t4
                      have hloc : ρc (pId k) = ρ id := hpl (some id, pId k) t1
                      obtain ⟨hl1, hl2⟩ := hlent.1 k mm t2
                      rw [hloc] at hl1 hl2
                      obtain ⟨hb1, ⟨cv', ty, hb2, hb3, hb4⟩, hb5⟩ := hhold.obj (pId k) (.box cs2) (by simp [t4])
                      refine ⟨pId k, .box cs2, t1, t4, idOK_pId k, fun _ => ⟨hl2, hb1⟩, ⟨by rw [hf]; exact hl1, ⟨cv', ty, by rw [hf, ← hl2]; exact hb2, by omega, fun i v c hv hcc => ?_⟩, by rw [hf, ← hl2]; exact hb5⟩⟩
                      have hi : i < cs2.length := by have := (List.getElem?_eq_some_iff.1 hcc).1; omega
                      obtain ⟨r1, r2⟩ := hb4 i v _ hv (List.getElem?_eq_getElem hi)
                      exact ⟨t6 ρf ρ2 hrho (fun k o hm c hc hs => (hfid k o hm).trans (hstay k c hc hs).symm) i v c _ hcc (List.getElem?_eq_getElem hi) r1, r2⟩
                    · have hloc : ρ2 c = ρ id := hstay id c t1 t3
                      refine ⟨c, o, t1, t2, idOK_stay t3, fun hn' => ⟨by rw [hloc], by rw [hloc]; exact hn'⟩, (hhold.obj c o (by simp [t2])).move t4 (by rw [hf, hloc])⟩
                  have Fb := addAll_fits (ρ := ρf) bx Ff hndb (fun i o hm => by
                    obtain ⟨c0, o2, t1, t4, hid0, hl, hob⟩ := hbx i o hm
                    have hf := hfid i o hm
                    have hi1 : ∀ p ∈ im ++ im', p.1 ≠ i := fun p hp e => hdis p.1 (List.mem_map_of_mem (f := (·.1)) hp) i (List.mem_map_of_mem (f := (·.1)) hm) e
                    refine ⟨?_, hob, fun hn' => ?_⟩
                    · cases e : oget (bindAll (im ++ im') (dropPassed sg.ps ps st)).objs i with
                      | none => rfl
                      | some x =>
                        rcases g3 i x e with hm' | ⟨_, o', ho'⟩
                        · obtain ⟨p, hp, e'⟩ := List.mem_map.1 hm'
                          exact absurd e' (hi1 p hp)
                        · exact absurd t1 ((hdp i o' ho').2 _)
                    · rw [hf] at hn'
                      obtain ⟨hl2, hl3⟩ := hl hn'
                      refine ⟨by rw [hf, ← hl2]; exact (hnewblk c0 o2 (by simp [t4]) hl3).1, fun k' hk' e => ?_⟩
                      obtain ⟨⟨x, hx⟩, hnk⟩ := hk'
                      rw [hf] at e
                      rcases g3 k' x hx with hm' | ⟨hno, o', ho'⟩
                      · obtain ⟨⟨x', c, o''⟩, hp, rfl⟩ := List.mem_map.1 hm'
                        rw [g1 x' c o'' hp] at e hnk
                        have hmo := (hmem x' c o'' hp).1
                        refine hhold.inj c c0 (hliveO c o'' hmo hnk) (hliveO c0 o2 (by simp [t4]) hl3) (fun e' => ?_) (by rw [e, hl2])
                        subst e'
                        have := hidok (x', _, o'') hp
                        simp only [hid0] at this
                        exact absurd this.2 (by simp)
                      · rw [g2 k' hno] at e hnk
                        exact (hnewblk c0 o2 (by simp [t4]) hl3).2 k' ⟨⟨o', ho'⟩, hnk⟩ (by rw [e, hl2])) (fun i o i' o' m1 m2 hne n1 n2 => by
                    obtain ⟨c, o2, t1, t4, hid0, hl, hob⟩ := hbx i o m1
                    obtain ⟨c', o2', t1', t4', hid0', hl', hob'⟩ := hbx i' o' m2
                    rw [hfid i o m1] at n1 ⊢
                    rw [hfid i' o' m2] at n2 ⊢
                    obtain ⟨hl2, hl3⟩ := hl n1
                    obtain ⟨hl2', hl3'⟩ := hl' n2
                    rw [← hl2, ← hl2']
                    refine hhold.inj c c' (hliveO c o2 (by simp [t4]) hl3) (hliveO c' o2' (by simp [t4']) hl3') (fun e => ?_)
                    have e1 : ρc c = ρ i := hpl (some i, c) t1
                    have e2 : ρc c' = ρ i' := hpl (some i', c') t1'
                    rw [e] at e1
                    rw [e1] at e2
                    have li : live st.objs ρ i := ⟨e5.here i _ t1, n1⟩
                    have li' : live st.objs ρ i' := ⟨e5.here i' _ t1', n2⟩
                    exact F.inj i i' li li' hne (by rw [e2]))
                  refine ⟨_, ⟨h', ρf, ?_⟩, hrest⟩
                  rcases q4 ρf (fun x c o hm => g1 x c o (by simp [hm])) with ⟨hd, rfl⟩ | hrr
                  · subst hd; exact Fb.put none (TRep.rep_unk _ (rets vr))
                  · exact Fb.put dst (TRep.of_rep' hrr)
              · exact hrest.elim
          · cases hend

end
end Go.Px

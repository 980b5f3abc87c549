/- Calls by contract. -/
import Derived.Test.YtknnooannohflaaGreatDoorPxG
namespace Go.Px
open Go.RowKit
set_option linter.unusedVariables false

section
variable {X : Cx} {h h' : Hp} {ρ : Nat → Loc} {st : St} {a : Act} {w w' : World} {P : Program}

theorem FitsAt.weaken (F : FitsAt X h ρ st a w) (st2 : St) (hl : st2.tmps.length = st.tmps.length) (ht : ∀ (t : Nat) s, st2.tmps[t]? = some s → TRep h ρ a.tmps (a.tmps.getD t undef) s)
  (ho : ∀ id o, oget st2.objs id = some o → oget st.objs id = some o) : FitsAt X h ρ st2 a w :=
 { F with
  size := by rw [F.size, hl]
  tm := ht
  obj := fun id o e => F.obj id o (ho id o e)
  inj := fun i j ⟨⟨o, e⟩, hi⟩ ⟨⟨o', e'⟩, hj⟩ hij => F.inj i j ⟨⟨o, ho i o e⟩, hi⟩ ⟨⟨o', ho j o' e'⟩, hj⟩ hij
  own := fun i ⟨⟨o, e⟩, hi⟩ => F.own i ⟨⟨o, ho i o e⟩, hi⟩ }

theorem FitsAt.odel (F : FitsAt X h ρ st a w) (id : Nat) : FitsAt X h ρ { st with objs := odel st.objs id } a w :=
 F.weaken _ rfl F.tm (fun i o e => (oget_odel_some e).2)

theorem dropPassed_fits (ms : List Md) : ∀ (l : List (Option Nat × Nat)) {st : St}, FitsAt X h ρ st a w → FitsAt X h ρ (dropPassed ms l st) a w ∧
  ∀ i o, oget (dropPassed ms l st).objs i = some o → (∃ o', oget st.objs i = some o') ∧ ∀ c, (some i, c) ∉ l
 | [], st, F => ⟨F, fun i o e => ⟨⟨o, e⟩, by simp⟩⟩
 | (none, c) :: l, st, F => by
  obtain ⟨F1, g⟩ := dropPassed_fits ms l F
  exact ⟨F1, fun i o e => ⟨(g i o e).1, fun c' hm => (g i o e).2 c' (by simpa using hm)⟩⟩
 | (some id, cid) :: l, st, F => by
  simp only [dropPassed]
  have step : ∀ st1 : St, FitsAt X h ρ st1 a w → (∀ i o, oget st1.objs i = some o → i ≠ id ∧ ∃ o', oget st.objs i = some o') →
    FitsAt X h ρ (dropPassed ms l st1) a w ∧ ∀ i o, oget (dropPassed ms l st1).objs i = some o → (∃ o', oget st.objs i = some o') ∧ ∀ c, (some i, c) ∉ (some id, cid) :: l := by
   intro st1 F1 h1
   obtain ⟨F2, g⟩ := dropPassed_fits ms l F1
   refine ⟨F2, fun i o e => ?_⟩
   obtain ⟨⟨o', e'⟩, hno⟩ := g i o e
   obtain ⟨hne, ho⟩ := h1 i o' e'
   refine ⟨ho, fun c hm => ?_⟩
   rcases List.mem_cons.1 hm with e2 | hm
   ·cases e2; exact hne rfl
   ·exact hno c hm
  split
  ·cases (Nat.beq (cid % 128) 0 || Nat.ble 64 (cid % 128)) with
   | true => exact step _ (F.odel id) (fun i o e => ⟨(oget_odel_some e).1, _, (oget_odel_some e).2⟩)
   | false =>
    refine step _ (F.drop id (fun _ _ => rfl) (.inr rfl)) (fun i o e => ?_)
    obtain ⟨o', e', rfl⟩ := oget_hmapO_some e
    obtain ⟨hne, e''⟩ := oget_odel_some e'
    exact ⟨hne, _, e''⟩
  ·refine step _ (F.drop id (fun _ _ => rfl) (.inr rfl)) (fun i o e => ?_)
   obtain ⟨o', e', rfl⟩ := oget_hmapO_some e
   obtain ⟨hne, e''⟩ := oget_odel_some e'
   exact ⟨hne, _, e''⟩

theorem FitsAt.called (F : FitsAt X h ρ st a w) (G : Nat → Prop) (hG : ∀ i, live st.objs ρ i → ¬ G (ρ i).blk) (hGx : ∀ b, G b → X.w.heap.size ≤ b ∨ X.G b) (hk : Keeps G w w') (hle : HLe h h') (hsub : HSub h' w')
  (hext : ∀ b, b < w.heap.size → ¬ G b → ∀ o, h b o = none → h' b o = none) : FitsAt X h' ρ st a w' := by
 have lt := fun id o ho hn => ObOK.blk_lt (F.obj id o ho) hn
 refine { F with tm := fun t s hs => (F.tm t s hs).mono hle, sub := hsub, obj := fun id o ho => ?_, mono := F.mono.trans hle, ext := fun b hb hg o e => ?_, kp := F.kp.step hk hGx }
 ·exact (F.obj id o ho).carry hle (fun hn => hk.block _ (lt id o ho hn) (hG id ⟨⟨o, ho⟩, hn⟩)) (fun hn x => hext _ (lt id o ho hn) (hG id ⟨⟨o, ho⟩, hn⟩) x)
 ·refine hext b (Nat.lt_of_lt_of_le hb F.kp.size) (fun hg' => ?_) o (F.ext b hb hg o e)
  rcases hGx b hg' with h1 | h1
  ·omega
  ·exact hg h1

theorem ObOK.move {ρ1 ρ2 : Nat → Loc} {i c : Nat} {o : Ob} (hb : ∀ x, o ≠ .box x) (e : ρ2 i = ρ1 c) (r : ObOK h ρ1 w c o) : ObOK h ρ2 w i o := by
 cases o with
 | box x => exact absurd rfl (hb x)
 | own sz rows => simp only [ObOK, e] at r ⊢; exact r
 | mp es => simp only [ObOK, e] at r ⊢; exact r
 | arr kd m ns => simp only [ObOK, e] at r ⊢; exact r

theorem bindAll_fits (ρ2 : Nat → Loc) : ∀ (im : List (Nat × Nat × Ob)) {st : St} {ρ : Nat → Loc}, FitsAt X h ρ st a w → (im.map (·.1)).Nodup →
  (∀ i c o, (i, c, o) ∈ im → idOK i = true ∧ ObOK h ρ2 w c o ∧ (∀ x, o ≠ .box x) ∧ ((ρ2 c).none = false → (X.w.heap.size ≤ (ρ2 c).blk ∨ X.G (ρ2 c).blk) ∧ ∀ k, live st.objs ρ k → (ρ k).blk ≠ (ρ2 c).blk)) →
  (∀ i c o i' c' o', (i, c, o) ∈ im → (i', c', o') ∈ im → i ≠ i' → (ρ2 c).none = false → (ρ2 c').none = false → (ρ2 c).blk ≠ (ρ2 c').blk) →
  ∃ ρf, FitsAt X h ρf (bindAll im st) a w ∧ (∀ i c o, (i, c, o) ∈ im → ρf i = ρ2 c) ∧ (∀ k, (∀ p ∈ im, p.1 ≠ k) → ρf k = ρ k) ∧
   (∀ k o, oget (bindAll im st).objs k = some o → k ∈ im.map (·.1) ∨ ((∀ p ∈ im, p.1 ≠ k) ∧ ∃ o', oget st.objs k = some o'))
 | [], st, ρ, F, _, _, _ => ⟨ρ, F, by simp, fun _ _ => rfl, fun k o e => .inr ⟨by simp, o, e⟩⟩
 | (i, c, o) :: im, st, ρ, F, hn, ho, hd => by
  simp only [List.map_cons, List.nodup_cons] at hn
  obtain ⟨hid, h1, h2, h3⟩ := ho i c o (by simp)
  have hm : hmapOb (killG i) o = o := by cases o <;> first | rfl | exact absurd rfl (h2 _)
  have F1 := F.bind i hid o (ρ2 c) (by rw [hm]; exact h1.move h2 (upd_same _ _ _)) (fun hnn => (h3 hnn).1) (fun hnn k _ hk => (h3 hnn).2 k hk)
  have hlive : ∀ k, live (st.bind i o).objs (upd ρ i (ρ2 c)) k → k = i ∨ (k ≠ i ∧ live st.objs ρ k) := by
   intro k hk
   by_cases hki : k = i
   ·exact .inl hki
   ·refine .inr ⟨hki, ?_⟩
    obtain ⟨⟨x, hx⟩, hnk⟩ := hk
    simp only [St.bind, oget_cons, if_neg (Ne.symm hki)] at hx
    rw [upd_ne ρ _ hki] at hnk
    obtain ⟨x', hx', rfl⟩ := oget_hmapO_some hx
    exact ⟨⟨x', (oget_odel_some hx').2⟩, hnk⟩
  have hne : ∀ i' c' o', (i', c', o') ∈ im → i' ≠ i := fun i' c' o' hm' e => hn.1 (by subst e; exact List.mem_map_of_mem (f := (·.1)) hm')
  obtain ⟨ρf, Ff, g1, g2, g3⟩ := bindAll_fits ρ2 im F1 hn.2 (fun i' c' o' hm' => by
   obtain ⟨q0, q1, q2, q3⟩ := ho i' c' o' (by simp [hm'])
   refine ⟨q0, q1, q2, fun hnn => ⟨(q3 hnn).1, fun k hk => ?_⟩⟩
   rcases hlive k hk with rfl | ⟨hki, hk'⟩
   ·rw [upd_same]
    exact hd k c o i' c' o' (by simp) (by simp [hm']) (fun e => hne i' c' o' hm' e.symm) (by have := hk.2; rwa [upd_same] at this) hnn
   ·rw [upd_ne ρ _ hki]; exact (q3 hnn).2 k hk') (fun i1 c1 o1 i2 c2 o2 m1 m2 => hd i1 c1 o1 i2 c2 o2 (by simp [m1]) (by simp [m2]))
  refine ⟨ρf, Ff, fun i' c' o' hm' => ?_, fun k hk => ?_, fun k x hx => ?_⟩
  ·rcases List.mem_cons.1 hm' with e | hm'
   ·cases e
    rw [g2 i (fun p hp => hne p.1 p.2.1 p.2.2 hp), upd_same]
   ·exact g1 i' c' o' hm'
  ·rw [g2 k (fun p hp => hk p (by simp [hp])), upd_ne]
   exact fun e => hk (i, c, o) (by simp) e.symm
  ·rcases g3 k x hx with hk | ⟨hk1, o', ho'⟩
   ·exact .inl (by simp [hk])
   ·by_cases hki : k = i
    ·exact .inl (by simp [hki])
    ·refine .inr ⟨fun p hp => ?_, ?_⟩
     ·rcases List.mem_cons.1 hp with rfl | hp
      ·exact fun e => hki e.symm
      ·exact hk1 p hp
     ·simp only [St.bind, oget_cons, if_neg (Ne.symm hki)] at ho'
      obtain ⟨x', hx', rfl⟩ := oget_hmapO_some ho'
      exact ⟨x', (oget_odel_some hx').2⟩

theorem addAll_fits : ∀ (bx : List (Nat × Ob)) {st : St}, FitsAt X h ρ st a w → (bx.map (·.1)).Nodup →
  (∀ i o, (i, o) ∈ bx → oget st.objs i = none ∧ ObOK h ρ w i o ∧ ((ρ i).none = false → (X.w.heap.size ≤ (ρ i).blk ∨ X.G (ρ i).blk) ∧ ∀ k, live st.objs ρ k → (ρ k).blk ≠ (ρ i).blk)) →
  (∀ i o i' o', (i, o) ∈ bx → (i', o') ∈ bx → i ≠ i' → (ρ i).none = false → (ρ i').none = false → (ρ i).blk ≠ (ρ i').blk) →
  FitsAt X h ρ { tmps := st.tmps, objs := bx ++ st.objs } a w
 | [], st, F, _, _, _ => F
 | (i, o) :: bx, st, F, hn, ho, hd => by
  simp only [List.map_cons, List.nodup_cons] at hn
  have F1 := addAll_fits bx F hn.2 (fun i' o' hm => ho i' o' (by simp [hm])) (fun i1 o1 i2 o2 m1 m2 => hd i1 o1 i2 o2 (by simp [m1]) (by simp [m2]))
  obtain ⟨h1, h2, h3⟩ := ho i o (by simp)
  have hno : oget (bx ++ st.objs) i = none := by
   rw [oget_append, h1]
   cases e : oget bx i with
   | none => rfl
   | some x => exact absurd (List.mem_map_of_mem (f := (·.1)) (oget_mem e)) hn.1
  refine F1.add i o hno h2 (fun hnn => (h3 hnn).1) (fun hnn k hk => ?_)
  obtain ⟨⟨x, hx⟩, hnk⟩ := hk
  simp only [oget_append] at hx
  cases e : oget bx k with
  | some y =>
   exact hd k y i o (by simp [oget_mem e]) (by simp) (fun e' => hn.1 (by subst e'; exact List.mem_map_of_mem (f := (·.1)) (oget_mem e))) hnk hnn
  | none =>
   simp [e] at hx
   exact (h3 hnn).2 k ⟨⟨x, hx⟩, hnk⟩

/- The shapes of results. -/

theorem pureDatL_append : ∀ (l1 l2 : List SV), pureDatL l1 = true → pureDatL l2 = true → pureDatL (l1 ++ l2) = true
 | [], l2, _, h => h
 | c :: cs, l2, h1, h2 => by
  simp only [pureDatL, Bool.and_eq_true, List.cons_append] at h1 ⊢
  exact ⟨h1.1, pureDatL_append cs l2 h1.2 h2⟩

theorem shape_get : ∀ (n : Nat) (t : TypeId) (K : List SV → Prop), shapeCells P n t K → ∃ cs, pureDatL cs = true ∧ K cs := by
 intro n
 induction n with
 | zero => intro t K' h; exact h.elim
 | succ n ih =>
  intro t K' h
  simp only [shapeCells] at h
  have fold : ∀ (l : List TypeId) (K' : List SV → Prop) (acc : List SV), pureDatL acc = true → (l.foldr (fun f k acc => shapeCells P n f fun cs => k (acc ++ cs)) K') acc → ∃ cs, pureDatL cs = true ∧ K' cs := by
   intro l
   induction l with
   | nil => intro K' acc ha h; exact ⟨acc, ha, h⟩
   | cons t ts iht =>
    intro K' acc ha h
    obtain ⟨cs, h1, hcs⟩ := ih t _ h
    exact iht K' _ (pureDatL_append _ _ ha h1) hcs
  split at h
  ·obtain ⟨b, hb⟩ := h; exact ⟨_, rfl, hb⟩
  ·obtain ⟨b, hb⟩ := h; exact ⟨_, rfl, hb⟩
  ·obtain ⟨b, hb⟩ := h; exact ⟨_, rfl, hb⟩
  ·split at h
   ·obtain ⟨b, hb⟩ := h; exact ⟨_, rfl, hb⟩
   ·exact h.elim
  ·obtain ⟨b, hb⟩ := h; exact ⟨_, rfl, hb⟩
  ·obtain ⟨b, cs, hb⟩ := h; exact ⟨_, rfl, hb⟩
  ·obtain ⟨b, hb⟩ := h
   cases b with
   | true => exact ⟨_, rfl, hb⟩
   | false => obtain ⟨i, hb⟩ := hb; exact ⟨_, rfl, hb⟩
  ·obtain ⟨b, hb⟩ := h; exact ⟨_, rfl, hb⟩
  ·obtain ⟨b, c, hb⟩ := h; exact ⟨_, rfl, hb⟩
  ·rename_i fs _
   have e : ∀ (l : List Field), l.foldr (fun f k acc => shapeCells P n f.type fun cs => k (acc ++ cs)) K' = (l.map (·.type)).foldr (fun f k acc => shapeCells P n f fun cs => k (acc ++ cs)) K' := by
    intro l; induction l with
    | nil => rfl
    | cons x xs ihx => simp only [List.foldr_cons, List.map_cons, ihx]
   rw [e] at h
   exact fold _ _ _ rfl h
  ·rename_i m e0 _
   have e : ∀ (l : List Nat), l.foldr (fun _ k acc => shapeCells P n e0 fun cs => k (acc ++ cs)) K' = (l.map (fun _ => e0)).foldr (fun f k acc => shapeCells P n f fun cs => k (acc ++ cs)) K' := by
    intro l; induction l with
    | nil => rfl
    | cons x xs ihx => simp only [List.foldr_cons, List.map_cons, ihx]
   rw [e] at h
   exact fold _ _ _ rfl h
  ·obtain ⟨b, hp, hb⟩ := h; exact ⟨[b], by simp [pureDatL, hp], hb⟩

theorem shapeVs_get : ∀ (ts : List TypeId) (K : List SV → Prop), shapeVs P ts K → ∃ xs, xs.length = ts.length ∧ pureDatL xs = true ∧ K xs
 | [], K, h => ⟨[], rfl, rfl, h⟩
 | t :: ts, K, h => by
  simp only [shapeVs, shapeV] at h
  have key : ∃ s, pureDat s = true ∧ shapeVs P ts fun ss => K (s :: ss) := by
   split at h
   ·rename_i kd m _
    obtain ⟨ns, h⟩ := h
    exact ⟨.arr kd m ns, by simp [pureDat], h⟩
   ·obtain ⟨cs, h1, h2⟩ := shape_get _ _ _ h
    cases hb : isAggT P t with
    | true => simp only [hb, cond_true] at h2; exact ⟨.agg cs, by simp [pureDat, h1], h2⟩
    | false =>
     simp only [hb, cond_false] at h2
     split at h2
     ·rename_i c; simp [pureDatL] at h1; exact ⟨c, h1, h2⟩
     ·exact h2.elim
  obtain ⟨s, hs, h3⟩ := key
  obtain ⟨xs, e1, e2, e3⟩ := shapeVs_get ts _ h3
  exact ⟨s :: xs, by simp [e1], by simp [pureDatL, hs, e2], e3⟩

theorem shapeLs_get : ∀ (ts : List TypeId) (K : List SV → Prop), shapeLs P ts K → ∃ xs, xs.length = ts.length ∧ pureDatL xs = true ∧ K xs
 | [], K, h => ⟨[], rfl, rfl, h⟩
 | t :: ts, K, h => by
  simp only [shapeLs] at h
  obtain ⟨cs, h1, h2⟩ := shape_get _ _ _ h
  obtain ⟨xs, e1, e2, e3⟩ := shapeLs_get ts _ h2
  exact ⟨.agg cs :: xs, by simp [e1], by simp [pureDatL, pureDat, h1, e2], e3⟩

theorem shapeRL_get (ts us : List TypeId) (K : List SV → Prop) (h : shapeRL P ts us K) : ∃ xs, xs.length = (ts ++ us).length ∧ pureDatL xs = true ∧ K xs := by
 obtain ⟨a, a1, a2, h⟩ := shapeVs_get ts _ h
 obtain ⟨b, b1, b2, h⟩ := shapeLs_get us _ h
 exact ⟨a ++ b, by simp [a1, b1], pureDatL_append _ _ a2 b2, h⟩

theorem pureDatL_get : ∀ {l : List SV}, pureDatL l = true → ∀ (i : Nat) c, l[i]? = some c → pureDat c = true
 | [], _, i, c, h => by simp at h
 | x :: xs, hb, 0, c, h => by simp [pureDatL] at hb; simp at h; subst h; exact hb.1
 | x :: xs, hb, i + 1, c, h => by simp [pureDatL] at hb; exact pureDatL_get hb.2 i c (by simpa using h)

theorem Rep.toPure {v : Value} {s : SV} (r : Rep h ρ v s) : pureDat s = true → PRep h v s := by
 induction r with
 | pure v s hp => intro _; exact hp
 | agg vs cs hl _ ih => intro hp; exact .agg vs cs hl (fun i v c hv hc => ih i v c hv hc (pureDatL_get (by simpa [pureDat] using hp) i c hc))
 | tup => intro hp; simp [pureDat] at hp
 | ptr => intro hp; simp [pureDat] at hp
 | bsl => intro hp; simp [pureDat] at hp
 | osl0 => intro hp; simp [pureDat] at hp
 | osl => intro hp; simp [pureDat] at hp
 | eptr => intro hp; simp [pureDat] at hp
 | osv => intro hp; simp [pureDat] at hp
 | omp => intro hp; simp [pureDat] at hp
 | aptr => intro hp; simp [pureDat] at hp
 | asl => intro hp; simp [pureDat] at hp

/- The same data under other numbers. -/

theorem ownH_pair {i j : Nat} {s hd hd2 : SV} {o o2 : Ob} (e1 : ownH i s = some (hd, o)) (e2 : ownH j s = some (hd2, o2)) {ρ1 ρ2 : Nat → Loc} (hl : ρ1 i = ρ2 j) :
  o = o2 ∧ (∀ x, o ≠ .box x) ∧ ∀ v, Rep h ρ2 v hd2 → Rep h ρ1 v hd := by
 unfold ownH at e1 e2
 split at e1
 ·cases e1; cases e2
  refine ⟨rfl, by simp, fun v r => ?_⟩
  rcases r.osl_inv with ⟨hn, p, rfl⟩ | ⟨hn, rfl⟩
  ·exact .osl0 i p (by rw [hl]; exact hn)
  ·rw [← hl] at hn ⊢; exact .osl i hn
 ·cases e1; cases e2
  refine ⟨rfl, by simp, fun v r => ?_⟩
  rw [r.omp_inv, ← hl]; exact .omp i
 ·cases e1

theorem callerId_mem {cid id : Nat} : ∀ {l : List (Option Nat × Nat)}, callerId cid l = some id → (some id, cid) ∈ l
 | [], e => by simp [callerId] at e
 | (none, _) :: l, e => by simp [callerId] at e; simp [callerId_mem e]
 | (some x, c) :: l, e => by
  simp only [callerId] at e
  cases hb : Nat.beq c cid with
  | true => simp [hb] at e; subst e; have := Nat.eq_of_beq_eq_true hb; subst this; simp
  | false => simp [hb] at e; simp [callerId_mem e]

theorem stay_mem {id j : Nat} {ms : List Bool} (hj : j < 64) (h1 : (ms.drop j).headD false = true) (h2 : stayH (ms.drop j) = true) : id + 64 + j ∈ staysC id ms := by
 unfold staysC
 have hl : Nat.ble ms.length 64 = false := by
  cases hb : Nat.ble ms.length 64 with
  | false => rfl
  | true =>
   have := Nat.le_of_ble_eq_true hb
   have e : (ms.drop j).drop 64 = [] := List.drop_of_length_le (by simp; omega)
   unfold stayH at h2
   rw [e] at h2
   cases h2
 rw [hl, cond_false]
 exact List.mem_filterMap.2 ⟨j, by simp [hj], by rw [h1, h2]; rfl⟩

theorem backCells_pair (ps : List (Option Nat × Nat)) (pid id : Nat) (ms : List Bool) : ∀ (cs : List SV) (j : Nat) (c1 c2 : List SV) (im : List (Nat × Nat × Ob)) (sx o2 : List (Nat × Ob)), pureDatL cs = true → backCells ps pid id j (ms.drop j) cs = some (c1, im, sx) → lendCells pid j (ms.drop j) cs = some (c2, o2) →
  c1.length = cs.length ∧ c2.length = cs.length ∧ (∀ x c o, (x, c, o) ∈ im → (c, o) ∈ o2 ∧ ∀ y, o ≠ .box y) ∧
  (∀ k o, (k, o) ∈ sx → ∃ c, (some k, c) ∈ ps ∧ (c, o) ∈ o2 ∧ c ∈ staysC pid ms ∧ ∀ y, o ≠ .box y) ∧
  ∀ ρ1 ρ2 : Nat → Loc, (∀ x c o, (x, c, o) ∈ im → ρ1 x = ρ2 c) → (∀ k o, (k, o) ∈ sx → ∀ c, (some k, c) ∈ ps → c ∈ staysC pid ms → ρ1 k = ρ2 c) →
   ∀ (i : Nat) v x y, c1[i]? = some x → c2[i]? = some y → Rep h ρ2 v y → Rep h ρ1 v x
 | [], j, c1, c2, im, sx, o2, _, e1, e2 => by
  simp [lendCells] at e2
  simp [backCells] at e1
  obtain ⟨rfl, rfl, rfl⟩ := e1; obtain ⟨rfl, rfl⟩ := e2
  exact ⟨rfl, rfl, by simp, by simp, by simp⟩
 | c :: cs, j, c1, c2, im, sx, o2, hp, e1, e2 => by
  simp only [pureDatL, Bool.and_eq_true] at hp
  simp only [lendCells, List.tail_drop] at e2
  simp only [backCells, List.tail_drop] at e1
  split at e1
  ·cases e1
  ·rename_i c1' im' sx' h1
   split at e2
   ·cases e2
   ·rename_i c2' o2' h2
    obtain ⟨l1, l2, g1, g2, g3⟩ := backCells_pair ps pid id ms cs (j + 1) c1' c2' im' sx' o2' hp.2 h1 h2
    cases hm : (ms.drop j).headD false with
    | true =>
     simp only [hm, cond_true] at e1 e2
     cases hs : stayH (ms.drop j) with
     | true =>
      simp only [hs, cond_true, cellId] at e1 e2
      split at e1
      ·rename_i k hcid hlt
       have hj : j < 64 := Nat.le_of_ble_eq_true hlt
       split at e1
       ·rename_i hd o ho
        split at e2
        ·rename_i hd2 o2x ho2
         cases e1; cases e2
         have hst : pid + 64 + j ∈ staysC pid ms := stay_mem hj hm hs
         refine ⟨by simp [l1], by simp [l2], fun x c' o' hm' => ?_, fun x o' hm' => ?_, fun ρ1 ρ2 hr hr2 i v x y hx hy r => ?_⟩
         ·obtain ⟨q1, q2⟩ := g1 x c' o' hm'
          exact ⟨List.mem_cons_of_mem _ q1, q2⟩
         ·rcases List.mem_cons.1 hm' with e | hm'
          ·cases e
           obtain ⟨e', hb, _⟩ := ownH_pair (h := h) ho ho2 (ρ1 := fun _ => noLoc) (ρ2 := fun _ => noLoc) rfl
           subst e'
           exact ⟨pid + 64 + j, callerId_mem hcid, by simp, hst, hb⟩
          ·obtain ⟨c', q1, q2, q3, q4⟩ := g2 x o' hm'
           exact ⟨c', q1, List.mem_cons_of_mem _ q2, q3, q4⟩
         ·cases i with
          | zero =>
           simp at hx hy; subst hx; subst hy
           exact (ownH_pair ho ho2 (hr2 k o (by simp) _ (callerId_mem hcid) hst)).2.2 v r
          | succ i => exact g3 ρ1 ρ2 (fun x c' o' hm' => hr x c' o' (by simp [hm'])) (fun k' o' hm' => hr2 k' o' (by simp [hm'])) i v x y (by simpa using hx) (by simpa using hy) r
        ·cases e2
       ·cases e1
      ·cases e1
     | false =>
      simp only [hs, cond_false, cellId] at e1 e2
      split at e1
      ·rename_i hd o ho
       split at e2
       ·rename_i hd2 o2x ho2
        cases e1; cases e2
        refine ⟨by simp [l1], by simp [l2], fun x c' o' hm' => ?_, fun x o' hm' => ?_, fun ρ1 ρ2 hr hr2 i v x y hx hy r => ?_⟩
        ·rcases List.mem_cons.1 hm' with e | hm'
         ·cases e
          obtain ⟨e', hb, _⟩ := ownH_pair (h := h) ho ho2 (ρ1 := fun _ => noLoc) (ρ2 := fun _ => noLoc) rfl
          subst e'
          exact ⟨by simp, hb⟩
         ·obtain ⟨q1, q2⟩ := g1 x c' o' hm'
          exact ⟨List.mem_cons_of_mem _ q1, q2⟩
        ·obtain ⟨c', q1, q2, q3, q4⟩ := g2 x o' hm'
         exact ⟨c', q1, List.mem_cons_of_mem _ q2, q3, q4⟩
        ·cases i with
         | zero =>
          simp at hx hy; subst hx; subst hy
          exact (ownH_pair ho ho2 (hr (id + 1 + j) (pid + 1 + j) o (by simp))).2.2 v r
         | succ i => exact g3 ρ1 ρ2 (fun x c' o' hm' => hr x c' o' (by simp [hm'])) hr2 i v x y (by simpa using hx) (by simpa using hy) r
       ·cases e2
      ·cases e1
    | false =>
     simp only [hm, cond_false] at e1 e2
     cases e1; cases e2
     refine ⟨by simp [l1], by simp [l2], g1, g2, fun ρ1 ρ2 hr hr2 i v x y hx hy r => ?_⟩
     cases i with
     | zero => simp at hx hy; subst hx; subst hy; exact .pure _ _ (r.toPure hp.1)
     | succ i => exact g3 ρ1 ρ2 hr hr2 i v x y (by simpa using hx) (by simpa using hy) r

end
end Go.Px

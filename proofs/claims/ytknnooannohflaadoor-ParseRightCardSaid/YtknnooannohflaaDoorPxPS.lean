/- Calls by contract. -/
import Derived.Test.YtknnooannohflaaDoorPxCG
import Derived.Laws.BytesString
import Derived.Tactics
namespace Go.Px
open Go.RowKit
set_option linter.unusedVariables false

section
variable {X : Cx} {h h' : Hp} {ρ : Nat → Loc} {st : St} {a : Act} {w w' : World} {P : Program}

theorem FitsAt.weaken (F : FitsAt X h ρ st a w) (st2 : St) (hl : st2.tmps.length = st.tmps.length) (ht : ∀ (t : Nat) s, st2.tmps[t]? = some s → TRep h ρ a.tmps (a.tmps.getD t undef) s)
  (ho : ∀ id o, oget st2.objs id = some o → oget st.objs id = some o) : FitsAt X h ρ st2 a w :=
 { F with
  size := by rw [F.size, hl]
  tm := ht
  obj := fun id o e => F.obj id o (ho id o e)
  inj := fun i j ⟨⟨o, e⟩, hi⟩ ⟨⟨o', e'⟩, hj⟩ hij => F.inj i j ⟨⟨o, ho i o e⟩, hi⟩ ⟨⟨o', ho j o' e'⟩, hj⟩ hij
  own := fun i ⟨⟨o, e⟩, hi⟩ => F.own i ⟨⟨o, ho i o e⟩, hi⟩ }

theorem FitsAt.odel (F : FitsAt X h ρ st a w) (id : Nat) : FitsAt X h ρ { st with objs := odel st.objs id } a w :=
 F.weaken _ rfl F.tm (fun i o e => (Zai e).2)

theorem Zdj (ms : List Md) : ∀ (l : List (Option Nat × Nat)) {st : St}, FitsAt X h ρ st a w → FitsAt X h ρ (Zbj ms l st) a w ∧
  ∀ i o, oget (Zbj ms l st).objs i = some o → (∃ o', oget st.objs i = some o') ∧ ∀ c, (some i, c) ∉ l
 | [], st, F => ⟨F, fun i o e => ⟨⟨o, e⟩, by simp⟩⟩
 | (none, c) :: l, st, F => by obtain ⟨F1, g⟩ := Zdj ms l F; exact ⟨F1, fun i o e => ⟨(g i o e).1, fun c' hm => (g i o e).2 c' (by simpa using hm)⟩⟩
 | (some id, cid) :: l, st, F => by
  simp only [Zbj]
  have step : ∀ st1 : St, FitsAt X h ρ st1 a w → (∀ i o, oget st1.objs i = some o → i ≠ id ∧ ∃ o', oget st.objs i = some o') →
    FitsAt X h ρ (Zbj ms l st1) a w ∧ ∀ i o, oget (Zbj ms l st1).objs i = some o → (∃ o', oget st.objs i = some o') ∧ ∀ c, (some i, c) ∉ (some id, cid) :: l := by
   intro st1 F1 h1; obtain ⟨F2, g⟩ := Zdj ms l F1; refine ⟨F2, fun i o e => ?_⟩; obtain ⟨⟨o', e'⟩, hno⟩ := g i o e; obtain ⟨hne, ho⟩ := h1 i o' e'; refine ⟨ho, fun c hm => ?_⟩
   rcases List.mem_cons.1 hm with e2 | hm
   ·cases e2; exact hne rfl
   ·exact hno c hm
  split
  ·cases (Nat.beq (cid % 128) 0 || Nat.ble 64 (cid % 128)) with
   | true => exact step _ (F.odel id) (fun i o e => ⟨(Zai e).1, _, (Zai e).2⟩)
   | false => refine step _ (F.drop id (fun _ _ => rfl) (.inr rfl)) (fun i o e => ?_); obtain ⟨o', e', rfl⟩ := Zaj e; obtain ⟨hne, e''⟩ := Zai e'; exact ⟨hne, _, e''⟩
  ·refine step _ (F.drop id (fun _ _ => rfl) (.inr rfl)) (fun i o e => ?_); obtain ⟨o', e', rfl⟩ := Zaj e; obtain ⟨hne, e''⟩ := Zai e'; exact ⟨hne, _, e''⟩

theorem FitsAt.called (F : FitsAt X h ρ st a w) (G : Nat → Prop) (hG : ∀ i, live st.objs ρ i → ¬ G (ρ i).blk) (hGx : ∀ b, G b → X.w.heap.size ≤ b ∨ X.G b) (hk : Keeps G w w') (hle : HLe h h') (hsub : HSub h' w')
  (hext : ∀ b, b < w.heap.size → ¬ G b → ∀ o, h b o = none → h' b o = none) : FitsAt X h' ρ st a w' := by
 have lt := fun id o ho hn => ObOK.blk_lt (F.obj id o ho) hn; refine { F with tm := fun t s hs => (F.tm t s hs).mono hle, sub := hsub, obj := fun id o ho => ?_, mono := F.mono.trans hle, ext := fun b hb hg o e => ?_, kp := F.kp.step hk hGx }
 ·exact (F.obj id o ho).carry hle (fun hn => hk.block _ (lt id o ho hn) (hG id ⟨⟨o, ho⟩, hn⟩)) (fun hn x => hext _ (lt id o ho hn) (hG id ⟨⟨o, ho⟩, hn⟩) x)
 ·refine hext b (Nat.lt_of_lt_of_le hb F.kp.size) (fun hg' => ?_) o (F.ext b hb hg o e)
  rcases hGx b hg' with h1 | h1
  ·omega
  ·exact hg h1

theorem ObOK.move {ρ1 ρ2 : Nat → Loc} {i c : Nat} {o : Ob} (hb : ∀ x, o ≠ .box x) (e : ρ2 i = ρ1 c) (r : ObOK h ρ1 w c o) : ObOK h ρ2 w i o := by
 cases o with
 | box x => exact absurd rfl (hb x)
 | own sz rows => simp only [ObOK, e] at r ⊢; exact r
 | mp es => simp only [ObOK, e] at r ⊢; exact r
 | arr kd m ns => simp only [ObOK, e] at r ⊢; exact r

theorem Zie (ρ2 : Nat → Loc) : ∀ (im : List (Nat × Nat × Ob)) {st : St} {ρ : Nat → Loc}, FitsAt X h ρ st a w → (im.map (·.1)).Nodup →
  (∀ i c o, (i, c, o) ∈ im → idOK i = true ∧ ObOK h ρ2 w c o ∧ (∀ x, o ≠ .box x) ∧ ((ρ2 c).none = false → (X.w.heap.size ≤ (ρ2 c).blk ∨ X.G (ρ2 c).blk) ∧ ∀ k, live st.objs ρ k → (ρ k).blk ≠ (ρ2 c).blk)) →
  (∀ i c o i' c' o', (i, c, o) ∈ im → (i', c', o') ∈ im → i ≠ i' → (ρ2 c).none = false → (ρ2 c').none = false → (ρ2 c).blk ≠ (ρ2 c').blk) →
  ∃ ρf, FitsAt X h ρf (Zh6 im st) a w ∧ (∀ i c o, (i, c, o) ∈ im → ρf i = ρ2 c) ∧ (∀ k, (∀ p ∈ im, p.1 ≠ k) → ρf k = ρ k) ∧
   (∀ k o, oget (Zh6 im st).objs k = some o → k ∈ im.map (·.1) ∨ ((∀ p ∈ im, p.1 ≠ k) ∧ ∃ o', oget st.objs k = some o'))
 | [], st, ρ, F, _, _, _ => ⟨ρ, F, by simp, fun _ _ => rfl, fun k o e => .inr ⟨by simp, o, e⟩⟩
 | (i, c, o) :: im, st, ρ, F, hn, ho, hd => by
  simp only [List.map_cons, List.nodup_cons] at hn; obtain ⟨hid, h1, h2, h3⟩ := ho i c o (by simp); have hm : Zd5 (killG i) o = o := by cases o <;> first | rfl | exact absurd rfl (h2 _)
  have F1 := F.bind i hid o (ρ2 c) (by rw [hm]; exact h1.move h2 (Zad _ _ _)) (fun hnn => (h3 hnn).1) (fun hnn k _ hk => (h3 hnn).2 k hk)
  have hlive : ∀ k, live (st.bind i o).objs (upd ρ i (ρ2 c)) k → k = i ∨ (k ≠ i ∧ live st.objs ρ k) := by
   intro k hk; by_cases hki : k = i
   ·exact .inl hki
   ·refine .inr ⟨hki, ?_⟩; obtain ⟨⟨x, hx⟩, hnk⟩ := hk; simp only [St.bind, Zbp, if_neg (Ne.symm hki)] at hx; rw [Zii ρ _ hki] at hnk; obtain ⟨x', hx', rfl⟩ := Zaj hx; exact ⟨⟨x', (Zai hx').2⟩, hnk⟩
  have hne : ∀ i' c' o', (i', c', o') ∈ im → i' ≠ i := fun i' c' o' hm' e => hn.1 (by subst e; exact List.mem_map_of_mem (f := (·.1)) hm')
  obtain ⟨ρf, Ff, g1, g2, g3⟩ := Zie ρ2 im F1 hn.2 (fun i' c' o' hm' => by
   obtain ⟨q0, q1, q2, q3⟩ := ho i' c' o' (by simp [hm']); refine ⟨q0, q1, q2, fun hnn => ⟨(q3 hnn).1, fun k hk => ?_⟩⟩
   rcases hlive k hk with rfl | ⟨hki, hk'⟩
   ·rw [Zad]; exact hd k c o i' c' o' (by simp) (by simp [hm']) (fun e => hne i' c' o' hm' e.symm) (by have := hk.2; rwa [Zad] at this) hnn
   ·rw [Zii ρ _ hki]; exact (q3 hnn).2 k hk') (fun i1 c1 o1 i2 c2 o2 m1 m2 => hd i1 c1 o1 i2 c2 o2 (by simp [m1]) (by simp [m2]))
  refine ⟨ρf, Ff, fun i' c' o' hm' => ?_, fun k hk => ?_, fun k x hx => ?_⟩
  ·rcases List.mem_cons.1 hm' with e | hm'
   ·cases e
    rw [g2 i (fun p hp => hne p.1 p.2.1 p.2.2 hp), Zad]
   ·exact g1 i' c' o' hm'
  ·rw [g2 k (fun p hp => hk p (by simp [hp])), Zii]; exact fun e => hk (i, c, o) (by simp) e.symm
  ·rcases g3 k x hx with hk | ⟨hk1, o', ho'⟩
   ·exact .inl (by simp [hk])
   ·by_cases hki : k = i
    ·exact .inl (by simp [hki])
    ·refine .inr ⟨fun p hp => ?_, ?_⟩
     ·rcases List.mem_cons.1 hp with rfl | hp
      ·exact fun e => hki e.symm
      ·exact hk1 p hp
     ·simp only [St.bind, Zbp, if_neg (Ne.symm hki)] at ho'; obtain ⟨x', hx', rfl⟩ := Zaj ho'; exact ⟨x', (Zai hx').2⟩

theorem Zjx : ∀ (bx : List (Nat × Ob)) {st : St}, FitsAt X h ρ st a w → (bx.map (·.1)).Nodup →
  (∀ i o, (i, o) ∈ bx → oget st.objs i = none ∧ ObOK h ρ w i o ∧ ((ρ i).none = false → (X.w.heap.size ≤ (ρ i).blk ∨ X.G (ρ i).blk) ∧ ∀ k, live st.objs ρ k → (ρ k).blk ≠ (ρ i).blk)) →
  (∀ i o i' o', (i, o) ∈ bx → (i', o') ∈ bx → i ≠ i' → (ρ i).none = false → (ρ i').none = false → (ρ i).blk ≠ (ρ i').blk) →
  FitsAt X h ρ { tmps := st.tmps, objs := bx ++ st.objs } a w
 | [], st, F, _, _, _ => F
 | (i, o) :: bx, st, F, hn, ho, hd => by
  simp only [List.map_cons, List.nodup_cons] at hn; have F1 := Zjx bx F hn.2 (fun i' o' hm => ho i' o' (by simp [hm])) (fun i1 o1 i2 o2 m1 m2 => hd i1 o1 i2 o2 (by simp [m1]) (by simp [m2])); obtain ⟨h1, h2, h3⟩ := ho i o (by simp)
  have hno : oget (bx ++ st.objs) i = none := by
   rw [Zj6, h1]
   cases e : oget bx i with
   | none => rfl
   | some x => exact absurd (List.mem_map_of_mem (f := (·.1)) (Zd4 e)) hn.1
  refine F1.add i o hno h2 (fun hnn => (h3 hnn).1) (fun hnn k hk => ?_); obtain ⟨⟨x, hx⟩, hnk⟩ := hk; simp only [Zj6] at hx
  cases e : oget bx k with
  | some y => exact hd k y i o (by simp [Zd4 e]) (by simp) (fun e' => hn.1 (by subst e'; exact List.mem_map_of_mem (f := (·.1)) (Zd4 e))) hnk hnn
  | none => simp [e] at hx; exact (h3 hnn).2 k ⟨⟨x, hx⟩, hnk⟩

/- The Za3 of results. -/

theorem Zdk : ∀ (l1 l2 : List SV), Zao l1 = true → Zao l2 = true → Zao (l1 ++ l2) = true
 | [], l2, _, h => h
 | c :: cs, l2, h1, h2 => by simp only [Zao, Bool.and_eq_true, List.cons_append] at h1 ⊢; exact ⟨h1.1, Zdk cs l2 h1.2 h2⟩

theorem Zfi : ∀ (n : Nat) (t : TypeId) (K : List SV → Prop), Za8 P n t K → ∃ cs, Zao cs = true ∧ K cs := by
 intro n
 induction n with
 | zero => intro t K' h; exact h.elim
 | succ n ih =>
  intro t K' h; simp only [Za8] at h
  have fold : ∀ (l : List TypeId) (K' : List SV → Prop) (acc : List SV), Zao acc = true → (l.foldr (fun f k acc => Za8 P n f fun cs => k (acc ++ cs)) K') acc → ∃ cs, Zao cs = true ∧ K' cs := by
   intro l
   induction l with
   | nil => intro K' acc ha h; exact ⟨acc, ha, h⟩
   | cons t ts iht => intro K' acc ha h; obtain ⟨cs, h1, hcs⟩ := ih t _ h; exact iht K' _ (Zdk _ _ ha h1) hcs
  split at h
  ·obtain ⟨b, hb⟩ := h; exact ⟨_, rfl, hb⟩
  ·obtain ⟨b, hb⟩ := h; exact ⟨_, rfl, hb⟩
  ·obtain ⟨b, hb⟩ := h; exact ⟨_, rfl, hb⟩
  ·split at h
   ·obtain ⟨b, hb⟩ := h; exact ⟨_, rfl, hb⟩
   ·exact h.elim
  ·obtain ⟨b, hb⟩ := h; exact ⟨_, rfl, hb⟩
  ·obtain ⟨b, cs, hb⟩ := h; exact ⟨_, rfl, hb⟩
  ·obtain ⟨b, hb⟩ := h
   cases b with
   | true => exact ⟨_, rfl, hb⟩
   | false => obtain ⟨i, hb⟩ := hb; exact ⟨_, rfl, hb⟩
  ·obtain ⟨b, hb⟩ := h; exact ⟨_, rfl, hb⟩
  ·obtain ⟨b, c, hb⟩ := h; exact ⟨_, rfl, hb⟩
  ·rename_i fs _
   have e : ∀ (l : List Field), l.foldr (fun f k acc => Za8 P n f.type fun cs => k (acc ++ cs)) K' = (l.map (·.type)).foldr (fun f k acc => Za8 P n f fun cs => k (acc ++ cs)) K' := by
    intro l; induction l with
    | nil => rfl
    | cons x xs ihx => simp only [List.foldr_cons, List.map_cons, ihx]
   rw [e] at h; exact fold _ _ _ rfl h
  ·rename_i m e0 _
   have e : ∀ (l : List Nat), l.foldr (fun _ k acc => Za8 P n e0 fun cs => k (acc ++ cs)) K' = (l.map (fun _ => e0)).foldr (fun f k acc => Za8 P n f fun cs => k (acc ++ cs)) K' := by
    intro l; induction l with
    | nil => rfl
    | cons x xs ihx => simp only [List.foldr_cons, List.map_cons, ihx]
   rw [e] at h; exact fold _ _ _ rfl h
  ·obtain ⟨b, hp, hb⟩ := h; exact ⟨[b], by simp [Zao, hp], hb⟩

theorem Zjy : ∀ (ts : List TypeId) (K : List SV → Prop), Zkn P ts K → ∃ xs, xs.length = ts.length ∧ Zao xs = true ∧ K xs
 | [], K, h => ⟨[], rfl, rfl, h⟩
 | t :: ts, K, h => by
  simp only [Zkn, Zwe] at h
  have key : ∃ s, Za1 s = true ∧ Zkn P ts fun ss => K (s :: ss) := by
   split at h
   ·rename_i kd m _; obtain ⟨ns, h⟩ := h; exact ⟨.arr kd m ns, by simp [Za1], h⟩
   ·obtain ⟨cs, h1, h2⟩ := Zfi _ _ _ h
    cases hb : Zbb P t with
    | true => simp only [hb, cond_true] at h2; exact ⟨.agg cs, by simp [Za1, h1], h2⟩
    | false =>
     simp only [hb, cond_false] at h2
     split at h2
     ·rename_i c; simp [Zao] at h1; exact ⟨c, h1, h2⟩
     ·exact h2.elim
  obtain ⟨s, hs, h3⟩ := key; obtain ⟨xs, e1, e2, e3⟩ := Zjy ts _ h3; exact ⟨s :: xs, by simp [e1], by simp [Zao, hs, e2], e3⟩

theorem Zjz : ∀ (ts : List TypeId) (K : List SV → Prop), Zm2 P ts K → ∃ xs, xs.length = ts.length ∧ Zao xs = true ∧ K xs
 | [], K, h => ⟨[], rfl, rfl, h⟩
 | t :: ts, K, h => by simp only [Zm2] at h; obtain ⟨cs, h1, h2⟩ := Zfi _ _ _ h; obtain ⟨xs, e1, e2, e3⟩ := Zjz ts _ h2; exact ⟨.agg cs :: xs, by simp [e1], by simp [Zao, Za1, h1, e2], e3⟩

theorem Zoq (ts us : List TypeId) (K : List SV → Prop) (h : Ztu P ts us K) : ∃ xs, xs.length = (ts ++ us).length ∧ Zao xs = true ∧ K xs := by
 obtain ⟨a, a1, a2, h⟩ := Zjy ts _ h; obtain ⟨b, b1, b2, h⟩ := Zjz us _ h; exact ⟨a ++ b, by simp [a1, b1], Zdk _ _ a2 b2, h⟩

theorem Zif : ∀ {l : List SV}, Zao l = true → ∀ (i : Nat) c, l[i]? = some c → Za1 c = true
 | [], _, i, c, h => by simp at h
 | x :: xs, hb, 0, c, h => by simp [Zao] at hb; simp at h; subst h; exact hb.1
 | x :: xs, hb, i + 1, c, h => by simp [Zao] at hb; exact Zif hb.2 i c (by simpa using h)

theorem Rep.toPure {v : Value} {s : SV} (r : Rep h ρ v s) : Za1 s = true → PRep h v s := by
 induction r with
 | pure v s hp => intro _; exact hp
 | agg vs cs hl _ ih => intro hp; exact .agg vs cs hl (fun i v c hv hc => ih i v c hv hc (Zif (by simpa [Za1] using hp) i c hc))
 | tup => intro hp; simp [Za1] at hp
 | ptr => intro hp; simp [Za1] at hp
 | bsl => intro hp; simp [Za1] at hp
 | osl0 => intro hp; simp [Za1] at hp
 | osl => intro hp; simp [Za1] at hp
 | eptr => intro hp; simp [Za1] at hp
 | osv => intro hp; simp [Za1] at hp
 | omp => intro hp; simp [Za1] at hp
 | aptr => intro hp; simp [Za1] at hp
 | asl => intro hp; simp [Za1] at hp

/- The same data under other numbers. -/

theorem Zep {i j : Nat} {s hd hd2 : SV} {o o2 : Ob} (e1 : ownH i s = some (hd, o)) (e2 : ownH j s = some (hd2, o2)) {ρ1 ρ2 : Nat → Loc} (hl : ρ1 i = ρ2 j) :
  o = o2 ∧ (∀ x, o ≠ .box x) ∧ ∀ v, Rep h ρ2 v hd2 → Rep h ρ1 v hd := by
 unfold ownH at e1 e2
 split at e1
 ·cases e1; cases e2
  refine ⟨rfl, by simp, fun v r => ?_⟩
  rcases r.osl_inv with ⟨hn, p, rfl⟩ | ⟨hn, rfl⟩
  ·exact .osl0 i p (by rw [hl]; exact hn)
  ·rw [← hl] at hn ⊢; exact .osl i hn
 ·cases e1; cases e2
  refine ⟨rfl, by simp, fun v r => ?_⟩; rw [r.omp_inv, ← hl]; exact .omp i
 ·cases e1

theorem Zc1 {cid id : Nat} : ∀ {l : List (Option Nat × Nat)}, Zea cid l = some id → (some id, cid) ∈ l
 | [], e => by simp [Zea] at e
 | (none, _) :: l, e => by simp [Zea] at e; simp [Zc1 e]
 | (some x, c) :: l, e => by
  simp only [Zea] at e
  cases hb : Nat.beq c cid with
  | true => simp [hb] at e; subst e; have := Nat.eq_of_beq_eq_true hb; subst this; simp
  | false => simp [hb] at e; simp [Zc1 e]

theorem Zu7 {id j : Nat} {ms : List Bool} (hj : j < 64) (h1 : (ms.drop j).headD false = true) (h2 : stayH (ms.drop j) = true) : id + 64 + j ∈ Zin id ms := by
 unfold Zin
 have hl : Nat.ble ms.length 64 = false := by
  cases hb : Nat.ble ms.length 64 with
  | false => rfl
  | true =>
   have := Nat.le_of_ble_eq_true hb; have e : (ms.drop j).drop 64 = [] := List.drop_of_length_le (by simp; omega); unfold stayH at h2; rw [e] at h2
   cases h2
 rw [hl, cond_false]; exact List.mem_filterMap.2 ⟨j, by simp [hj], by rw [h1, h2]; rfl⟩

theorem Zgd (ps : List (Option Nat × Nat)) (pid id : Nat) (ms : List Bool) : ∀ (cs : List SV) (j : Nat) (c1 c2 : List SV) (im : List (Nat × Nat × Ob)) (sx o2 : List (Nat × Ob)), Zao cs = true → Zfv ps pid id j (ms.drop j) cs = some (c1, im, sx) → Za6 pid j (ms.drop j) cs = some (c2, o2) →
  c1.length = cs.length ∧ c2.length = cs.length ∧ (∀ x c o, (x, c, o) ∈ im → (c, o) ∈ o2 ∧ ∀ y, o ≠ .box y) ∧
  (∀ k o, (k, o) ∈ sx → ∃ c, (some k, c) ∈ ps ∧ (c, o) ∈ o2 ∧ c ∈ Zin pid ms ∧ ∀ y, o ≠ .box y) ∧
  ∀ ρ1 ρ2 : Nat → Loc, (∀ x c o, (x, c, o) ∈ im → ρ1 x = ρ2 c) → (∀ k o, (k, o) ∈ sx → ∀ c, (some k, c) ∈ ps → c ∈ Zin pid ms → ρ1 k = ρ2 c) →
   ∀ (i : Nat) v x y, c1[i]? = some x → c2[i]? = some y → Rep h ρ2 v y → Rep h ρ1 v x
 | [], j, c1, c2, im, sx, o2, _, e1, e2 => by simp [Za6] at e2; simp [Zfv] at e1; obtain ⟨rfl, rfl, rfl⟩ := e1; obtain ⟨rfl, rfl⟩ := e2; exact ⟨rfl, rfl, by simp, by simp, by simp⟩
 | c :: cs, j, c1, c2, im, sx, o2, hp, e1, e2 => by
  simp only [Zao, Bool.and_eq_true] at hp; simp only [Za6, List.tail_drop] at e2; simp only [Zfv, List.tail_drop] at e1
  split at e1
  ·cases e1
  ·rename_i c1' im' sx' h1
   split at e2
   ·cases e2
   ·rename_i c2' o2' h2; obtain ⟨l1, l2, g1, g2, g3⟩ := Zgd ps pid id ms cs (j + 1) c1' c2' im' sx' o2' hp.2 h1 h2
    cases hm : (ms.drop j).headD false with
    | true =>
     simp only [hm, cond_true] at e1 e2
     cases hs : stayH (ms.drop j) with
     | true =>
      simp only [hs, cond_true, Zhr] at e1 e2
      split at e1
      ·rename_i k hcid hlt; have hj : j < 64 := Nat.le_of_ble_eq_true hlt
       split at e1
       ·rename_i hd o ho
        split at e2
        ·rename_i hd2 o2x ho2
         cases e1; cases e2
         have hst : pid + 64 + j ∈ Zin pid ms := Zu7 hj hm hs; refine ⟨by simp [l1], by simp [l2], fun x c' o' hm' => ?_, fun x o' hm' => ?_, fun ρ1 ρ2 hr hr2 i v x y hx hy r => ?_⟩
         ·obtain ⟨q1, q2⟩ := g1 x c' o' hm'; exact ⟨List.mem_cons_of_mem _ q1, q2⟩
         ·rcases List.mem_cons.1 hm' with e | hm'
          ·cases e
           obtain ⟨e', hb, _⟩ := Zep (h := h) ho ho2 (ρ1 := fun _ => noLoc) (ρ2 := fun _ => noLoc) rfl; subst e'; exact ⟨pid + 64 + j, Zc1 hcid, by simp, hst, hb⟩
          ·obtain ⟨c', q1, q2, q3, q4⟩ := g2 x o' hm'; exact ⟨c', q1, List.mem_cons_of_mem _ q2, q3, q4⟩
         ·cases i with
          | zero => simp at hx hy; subst hx; subst hy; exact (Zep ho ho2 (hr2 k o (by simp) _ (Zc1 hcid) hst)).2.2 v r
          | succ i => exact g3 ρ1 ρ2 (fun x c' o' hm' => hr x c' o' (by simp [hm'])) (fun k' o' hm' => hr2 k' o' (by simp [hm'])) i v x y (by simpa using hx) (by simpa using hy) r
        ·cases e2
       ·cases e1
      ·cases e1
     | false =>
      simp only [hs, cond_false, Zhr] at e1 e2
      split at e1
      ·rename_i hd o ho
       split at e2
       ·rename_i hd2 o2x ho2
        cases e1; cases e2
        refine ⟨by simp [l1], by simp [l2], fun x c' o' hm' => ?_, fun x o' hm' => ?_, fun ρ1 ρ2 hr hr2 i v x y hx hy r => ?_⟩
        ·rcases List.mem_cons.1 hm' with e | hm'
         ·cases e
          obtain ⟨e', hb, _⟩ := Zep (h := h) ho ho2 (ρ1 := fun _ => noLoc) (ρ2 := fun _ => noLoc) rfl; subst e'; exact ⟨by simp, hb⟩
         ·obtain ⟨q1, q2⟩ := g1 x c' o' hm'; exact ⟨List.mem_cons_of_mem _ q1, q2⟩
        ·obtain ⟨c', q1, q2, q3, q4⟩ := g2 x o' hm'; exact ⟨c', q1, List.mem_cons_of_mem _ q2, q3, q4⟩
        ·cases i with
         | zero => simp at hx hy; subst hx; subst hy; exact (Zep ho ho2 (hr (id + 1 + j) (pid + 1 + j) o (by simp))).2.2 v r
         | succ i => exact g3 ρ1 ρ2 (fun x c' o' hm' => hr x c' o' (by simp [hm'])) hr2 i v x y (by simpa using hx) (by simpa using hy) r
       ·cases e2
      ·cases e1
    | false =>
     simp only [hm, cond_false] at e1 e2
     cases e1; cases e2
     refine ⟨by simp [l1], by simp [l2], g1, g2, fun ρ1 ρ2 hr hr2 i v x y hx hy r => ?_⟩
     cases i with
     | zero => simp at hx hy; subst hx; subst hy; exact .pure _ _ (r.toPure hp.1)
     | succ i => exact g3 ρ1 ρ2 hr hr2 i v x y (by simpa using hx) (by simpa using hy) r

end

theorem Zp7 {k r : Nat} (hr : r = 0 ∨ (64 ≤ r ∧ r < 128)) : idOK (pId k + r) = false := by
 have h1 : Nat.blt (1048576 + 128 * k + r) 1048576 = false := by
  cases hb : Nat.blt (1048576 + 128 * k + r) 1048576
  ·rfl
  ·have := Nat.le_of_ble_eq_true hb; omega
 have h2 : (1048576 + 128 * k + r) % 128 = r := by omega
 have h3 : (Nat.beq r 0 || Nat.ble 64 r) = true := by
  rcases hr with rfl | ⟨hr, _⟩
  ·rfl
  ·rw [Nat.ble_eq_true_of_le hr, Bool.or_true]
 unfold idOK pId; rw [h1, h2, h3]; rfl

theorem Zp8 (k : Nat) : idOK (pId k) = false := Zp7 (r := 0) (.inl rfl)

theorem Zrh {l : List (Option Nat × Nat)} {ids : List Nat} (h : Zq2 l ids = true) {id : Nat} (hid : id ∈ ids) : (some id, id) ∈ l := by
 unfold Zq2 at h; have h1 := List.all_eq_true.1 h id hid; obtain ⟨⟨o, c⟩, hm, h2⟩ := List.any_eq_true.1 h1; simp only [Bool.and_eq_true] at h2; have e2 : c = id := Nat.eq_of_beq_eq_true h2.2; subst e2
 cases o with
 | none => cases h2.1
 | some k => have e1 : k = c := Nat.eq_of_beq_eq_true h2.1; subst e1; exact hm

theorem Zri {id c : Nat} {ms : List Bool} (h : c ∈ Zin id ms) : ∃ j, j < 64 ∧ c = id + 64 + j := by
 unfold Zin at h
 cases hb : Nat.ble ms.length 64 with
 | true => rw [hb] at h; cases h
 | false =>
  rw [hb, cond_false] at h; obtain ⟨j, h1, h2⟩ := List.mem_filterMap.1 h; refine ⟨j, by simpa using h1, ?_⟩
  cases hc : (ms.drop j).headD false && stayH (ms.drop j) with
  | true => rw [hc, cond_true] at h2; cases h2; rfl
  | false => rw [hc, cond_false] at h2; cases h2

theorem Ze1 : ∀ (ms : List Md) (i : Nat) {c : Nat}, c ∈ Zdu i ms → ∃ k j, j < 64 ∧ c = pId k + (64 + j)
 | [], i, c, h => by cases h
 | .lend mm :: r, i, c, h => by
  rcases List.mem_append.1 h with h | h
  ·obtain ⟨j, hj, e⟩ := Zri h; exact ⟨i, j, hj, by omega⟩
  ·exact Ze1 r (i + 1) h
 | .pure :: r, i, c, h => Ze1 r (i + 1) h
 | .own :: r, i, c, h => Ze1 r (i + 1) h

theorem Zno {ms : List Md} {i c : Nat} (h : c ∈ Zdu i ms) : idOK c = false := by
 obtain ⟨k, j, hj, rfl⟩ := Ze1 ms i h; exact Zp7 (.inr ⟨by omega, by omega⟩)

def lendN : List Md → Nat
 | [] => 0
 | .lend _ :: r => lendN r + 1
 | _ :: r => lendN r

theorem Zg9 : ∀ (ms : List Md) (i : Nat) (ss : List SV) (os : List (Nat × Ob)), lentH i ms ss = some os → ss.length = lendN ms
 | [], i, [], os, _ => rfl
 | [], i, _ :: _, os, e => by simp [lentH] at e
 | .lend ms :: r, i, [], os, e => by simp [lentH] at e
 | .lend ms :: r, i, s :: ss, os, e => by
  simp only [lentH] at e
  split at e
  ·rename_i cs os' h2; have := Zg9 r (i + 1) ss os' h2; simp [lendN, this]
  ·cases e
 | .pure :: r, i, ss, os, e => by simp only [lentH] at e; simpa [lendN] using Zg9 r (i + 1) ss os e
 | .own :: r, i, ss, os, e => by simp only [lentH] at e; simpa [lendN] using Zg9 r (i + 1) ss os e

theorem Zj0 : ∀ (ms : List Md) (i : Nat), (∃ m r, ms.drop i = m :: r ∧ mdAt ms i = m ∧ ms.drop (i + 1) = r) ∨ (ms.drop i = [] ∧ mdAt ms i = .pure ∧ ms.drop (i + 1) = [])
 | [], i => .inr ⟨by simp, by cases i <;> rfl, by simp⟩
 | m :: ms, 0 => .inl ⟨m, ms, rfl, rfl, rfl⟩
 | m :: ms, i + 1 => by simpa [mdAt] using Zj0 ms i

theorem Zha (P : Program) (ms : List Md) : ∀ (ts : List TypeId) (i : Nat), ms.length ≤ i + ts.length → (Zev P ms i ts).length = lendN (ms.drop i)
 | [], i, h => by have : ms.drop i = [] := List.drop_of_length_le (by simpa using h); simp [Zev, this, lendN]
 | t :: ts, i, h => by
  have ih := Zha P ms ts (i + 1) (by simp at h; omega); simp only [Zev]
  rcases Zj0 ms i with ⟨m, r, e1, e2, e3⟩ | ⟨e1, e2, e3⟩
  ·rw [e1, e2]; rw [e3] at ih
   cases m <;> simp [lendN, ih]
  ·rw [e1, e2]; rw [e3] at ih; simp [lendN] at ih ⊢; exact ih

theorem Zhb (idf : Nat → Nat) (ms : List Md) : ∀ (ss : List SV) (i : Nat) (hs : List SV) (os : List (Nat × Ob)), argsH idf ms i ss = some (hs, os) → hs.length = ss.length
 | [], i, hs, os, e => by simp [argsH] at e; obtain ⟨rfl, rfl⟩ := e; rfl
 | s :: ss, i, hs, os, e => by
  simp only [argsH] at e
  split at e
  ·rename_i hd o hs' os' h1 h2
   cases e
   simp [Zhb idf ms ss (i + 1) hs' os' h2]
  ·cases e

theorem Zig (P : Program) (objs : List (Nat × Ob)) (idf : Nat → Nat) (ms : List Md) : ∀ (ts : List TypeId) (ss : List SV) (i : Nat) (ds : List SV) (ids : List (Option Nat × Nat)), Zbd P objs idf ms i ts ss = some (ds, ids) → ts.length = ss.length
 | [], [], i, ds, ids, e => rfl
 | [], _ :: _, i, ds, ids, e => by simp [Zbd] at e
 | _ :: _, [], i, ds, ids, e => by simp [Zbd] at e
 | t :: ts, s :: ss, i, ds, ids, e => by
  simp only [Zbd] at e
  split at e
  ·rename_i d l ds' ls h1 h2; simp [Zig P objs idf ms ts ss (i + 1) ds' ls h2]
  ·cases e

theorem Zu8 {l : List (Nat × Ob)} {c : Nat} {o : Ob} (h : (c, o) ∈ l) : ∃ o', oget l c = some o' := by
 induction l with
 | nil => simp at h
 | cons x xs ih =>
  obtain ⟨k, p⟩ := x; rw [Zbp]; by_cases e : k = c
  ·exact ⟨p, by simp [e]⟩
  ·rw [if_neg e]
   rcases List.mem_cons.1 h with e' | h
   ·cases e'; exact absurd rfl e
   ·exact ih h

theorem Zhc {objs : List (Nat × Ob)} {cid : Nat} {s d : SV} {ids : List (Option Nat × Nat)} (e : Zft objs cid s = some (d, ids)) : ∀ id c, (some id, c) ∈ ids → s = .osl id ∨ s = .omp id := by
 intro id c hm; unfold Zft at e
 split at e
 ·split at e
  ·cases e; simp at hm; exact .inl (by rw [hm.1])
  ·cases e
 ·split at e
  ·cases e; simp at hm; exact .inr (by rw [hm.1])
  ·cases e
 ·cases e; simp at hm
 ·cases e

theorem Zfj {objs : List (Nat × Ob)} (cid : Nat) : ∀ (cs : List SV) (j : Nat) (ms : List Bool) (ds : List SV) (ids : List (Option Nat × Nat)), Zba objs cid j ms cs = some (ds, ids) → ∀ id c, (some id, c) ∈ ids → .osl id ∈ cs ∨ .omp id ∈ cs
 | [], j, ms, ds, ids, e, id, c, hm => by simp [Zba] at e; obtain ⟨rfl, rfl⟩ := e; simp at hm
 | x :: cs, j, ms, ds, ids, e, id, c, hm => by
  simp only [Zba] at e
  split at e
  ·rename_i d l ds' ls h1 h2
   cases e
   rcases List.mem_append.1 hm with hm | hm
   ·cases hmm : ms.headD false with
    | true =>
     simp only [hmm, cond_true] at h1
     rcases Zhc h1 id c hm with e | e
     ·exact .inl (by simp [e])
     ·exact .inr (by simp [e])
    | false =>
     simp only [hmm, cond_false] at h1
     cases hp : Zau x with
     | none => simp [hp] at h1
     | some y => simp [hp] at h1; rw [h1.2] at hm; simp at hm
   ·rcases Zfj cid cs (j + 1) ms.tail ds' ls h2 id c hm with e | e
    ·exact .inl (by simp [e])
    ·exact .inr (by simp [e])
  ·cases e

theorem Zj1 : ∀ (cs : List SV) (id : Nat), .osl id ∈ cs → id ∈ Zfb cs
 | [], id, h => by simp at h
 | c :: cs, id, h => by
  simp only [Zfb, List.mem_append]
  rcases List.mem_cons.1 h with e | h
  ·rw [← e]; exact .inl (by simp [Zqv])
  ·exact .inr (Zj1 cs id h)

theorem Zmj {objs : List (Nat × Ob)} {cid : Nat} {m : Md} {s d : SV} {ids : List (Option Nat × Nat)} (e : Zfu objs cid m s = some (d, ids)) : ∀ id c, (some id, c) ∈ ids → id ∈ Zhu objs m s := by
 intro id c hm; unfold Zfu at e
 cases m with
 | pure => simp at e; obtain ⟨x, _, _, rfl⟩ := e; simp at hm
 | own =>
  simp only [] at e
  rcases Zhc e id c hm with rfl | rfl
  ·simp [Zhu]
  ·simp [Zhu]
 | lend ms =>
  simp only [] at e
  split at e
  ·rename_i id0
   split at e
   ·rename_i cs ho; simp at e; obtain ⟨ds, ids', hpc, rfl, rfl⟩ := e; simp only [Zhu, ho]
    rcases List.mem_cons.1 hm with e | hm
    ·cases e; simp
    ·rcases Zfj cid cs 0 ms ds ids' hpc id c hm with e | e
     ·simp [Zj1 cs id e]
     ·refine List.mem_cons_of_mem _ (List.mem_append_right _ (List.mem_filterMap.2 ⟨_, e, rfl⟩))
   ·cases e
  ·cases e

theorem Zge (P : Program) (objs : List (Nat × Ob)) (idf : Nat → Nat) (ms : List Md) : ∀ (ts : List TypeId) (ss : List SV) (i : Nat) (ds : List SV) (ids : List (Option Nat × Nat)), Zbd P objs idf ms i ts ss = some (ds, ids) →
  ∀ id c, (some id, c) ∈ ids → id ∈ Zc5 objs ms i ss
 | [], [], i, ds, ids, e, id, c, hm => by simp [Zbd] at e; obtain ⟨rfl, rfl⟩ := e; simp at hm
 | [], _ :: _, i, ds, ids, e, _, _, _ => by simp [Zbd] at e
 | _ :: _, [], i, ds, ids, e, _, _, _ => by simp [Zbd] at e
 | t :: ts, s :: ss, i, ds, ids, e, id, c, hm => by
  simp only [Zbd] at e
  split at e
  ·rename_i d l ds' ls h1 h2
   cases e
   simp only [Zc5, List.mem_append]
   rcases List.mem_append.1 hm with hm | hm
   ·exact .inl (Zmj h1 id c hm)
   ·exact .inr (Zge P objs idf ms ts ss (i + 1) ds' ls h2 id c hm)
  ·cases e

section
variable {X : Cx} {h h' : Hp} {ρ : Nat → Loc} {st : St} {a : Act} {w w' : World} {P : Program}

theorem Zld (f1 f2 : Nat → Nat) (ms : List Md) (hms : ms.all Md.noLend = true) : ∀ (ss : List SV) (i : Nat) (h1 h2 : List SV) (o1 o2 : List (Nat × Ob)), Zao ss = true → argsH f1 ms i ss = some (h1, o1) → argsH f2 ms i ss = some (h2, o2) →
  (∀ c o, (c, o) ∈ o1 → ∃ k, c = f1 k ∧ (f2 k, o) ∈ o2 ∧ ∀ x, o ≠ .box x) ∧
  ∀ ρ1 ρ2 : Nat → Loc, (∀ k o, (f1 k, o) ∈ o1 → ρ1 (f1 k) = ρ2 (f2 k)) → ∀ (k : Nat) v x y, h1[k]? = some x → h2[k]? = some y → Rep h ρ2 v y → Rep h ρ1 v x
 | [], i, h1, h2, o1, o2, _, e1, e2 => by simp [argsH] at e1 e2; obtain ⟨rfl, rfl⟩ := e1; obtain ⟨rfl, rfl⟩ := e2; exact ⟨by simp, by simp⟩
 | s :: ss, i, h1, h2, o1, o2, hp, e1, e2 => by
  simp only [Zao, Bool.and_eq_true] at hp; simp only [argsH] at e1 e2
  split at e1
  ·rename_i hd o hs1 os1 g1 g2
   split at e2
   ·rename_i hd' o' hs2 os2 g1' g2'
    cases e1; cases e2
    obtain ⟨q1, q2⟩ := Zld f1 f2 ms hms ss (i + 1) hs1 hs2 os1 os2 hp.2 g2 g2'
    have hml : mdAt ms i = .pure ∨ mdAt ms i = .own := by
     have : ∀ (ms : List Md) (i : Nat), ms.all Md.noLend = true → (mdAt ms i).noLend = true := by
      intro ms
      induction ms with
      | nil => intro i _; rfl
      | cons m ms ih =>
       intro i hm; simp only [List.all_cons, Bool.and_eq_true] at hm
       cases i with
       | zero => exact hm.1
       | succ i => exact ih i hm.2
     have := this ms i hms
     cases hm : mdAt ms i <;> simp [hm, Md.noLend] at this <;> simp
    rcases hml with hm | hm
    ·simp only [hm, argH] at g1 g1'
     cases g1; cases g1'
     refine ⟨by simpa using q1, fun ρ1 ρ2 hr k v x y hx hy r => ?_⟩
     cases k with
     | zero => simp at hx hy; subst hx; subst hy; exact .pure _ _ (r.toPure hp.1)
     | succ k => exact q2 ρ1 ρ2 (by simpa using hr) k v x y (by simpa using hx) (by simpa using hy) r
    ·simp only [hm, argH] at g1 g1'
     split at g1
     ·rename_i hd1 ob1 hh1
      split at g1'
      ·rename_i hd2 ob2 hh2
       cases g1; cases g1'
       refine ⟨fun c o hm' => ?_, fun ρ1 ρ2 hr k v x y hx hy r => ?_⟩
       ·rcases List.mem_append.1 hm' with hm' | hm'
        ·simp at hm'; obtain ⟨rfl, rfl⟩ := hm'; obtain ⟨e', hb, _⟩ := Zep (h := h) hh1 hh2 (ρ1 := fun _ => noLoc) (ρ2 := fun _ => noLoc) rfl; subst e'; exact ⟨i, rfl, by simp, hb⟩
        ·obtain ⟨k, e, hm2, hb⟩ := q1 c o hm'; exact ⟨k, e, by simp [hm2], hb⟩
       ·cases k with
        | zero => simp at hx hy; subst hx; subst hy; exact (Zep hh1 hh2 (hr i ob1 (by simp))).2.2 v r
        | succ k => exact q2 ρ1 ρ2 (fun k o hm => hr k o (by simp [hm])) k v x y (by simpa using hx) (by simpa using hy) r
      ·cases g1'
     ·cases g1
   ·cases e2
  ·cases e1

theorem Zdc (ps : List (Option Nat × Nat)) : ∀ (ms : List Md) (i : Nat) (ss : List SV) (os : List (Nat × Ob)) (im : List (Nat × Nat × Ob)) (bx : List (Nat × Ob)), Zao ss = true → lentH i ms ss = some os → Zde ps i ms ss = some (im, bx) →
  (∀ x c o, (x, c, o) ∈ im → (c, o) ∈ os ∧ ∀ y, o ≠ .box y) ∧
  (∀ id o, (id, o) ∈ bx → (∃ k mm cs1 cs2, (some id, pId (i + k)) ∈ ps ∧ ms[k]? = some (.lend mm) ∧ o = .box cs1 ∧ (pId (i + k), .box cs2) ∈ os ∧ cs1.length = cs2.length ∧
   ∀ ρ1 ρ2 : Nat → Loc, (∀ x c o, (x, c, o) ∈ im → ρ1 x = ρ2 c) → (∀ k o, (k, o) ∈ bx → ∀ c, (some k, c) ∈ ps → c ∈ Zdu i ms → ρ1 k = ρ2 c) → ∀ (j : Nat) v x y, cs1[j]? = some x → cs2[j]? = some y → Rep h ρ2 v y → Rep h ρ1 v x) ∨
   (∃ c, (some id, c) ∈ ps ∧ (c, o) ∈ os ∧ c ∈ Zdu i ms ∧ ∀ y, o ≠ .box y))
 | [], i, [], os, im, bx, _, e1, e2 => by simp [Zde] at e2; obtain ⟨rfl, rfl⟩ := e2; exact ⟨by simp, by simp⟩
 | [], i, _ :: _, os, im, bx, _, e1, e2 => by simp [lentH] at e1
 | .lend mm :: r, i, [], os, im, bx, _, e1, e2 => by simp [lentH] at e1
 | .lend mm :: r, i, s :: ss, os, im, bx, hp, e1, e2 => by
  simp only [Zao, Bool.and_eq_true] at hp; simp only [lentH] at e1; simp only [Zde] at e2
  split at e1
  ·rename_i cs os' h1
   split at e1
   ·rename_i cs2 o2 hl2
    cases e1
    split at e2
    ·rename_i cs' id im' bx' hcs hcid hlb
     cases hcs
     split at e2
     ·rename_i cs1 imc sx hl1
      cases e2
      have hpc : Zao cs = true := (by simpa [Za1] using hp.1); obtain ⟨l1, l2, g1, g2, g3⟩ := Zgd (h := h) ps (pId i) id mm cs 0 cs1 cs2 imc sx o2 hpc hl1 hl2; obtain ⟨q1, q2⟩ := Zdc ps r (i + 1) ss os' im' bx' hp.2 h1 hlb; refine ⟨fun x c o hm => ?_, fun id' o hm => ?_⟩
      ·rcases List.mem_append.1 hm with hm | hm
       ·obtain ⟨t1, t2⟩ := g1 x c o hm; exact ⟨by simp [t1], t2⟩
       ·obtain ⟨t1, t2⟩ := q1 x c o hm; exact ⟨by simp [t1], t2⟩
      ·simp only [List.cons_append, List.mem_cons, List.mem_append] at hm
       rcases hm with e | hm | hm
       ·cases e
        refine .inl ⟨0, mm, cs1, cs2, Zc1 hcid, rfl, rfl, by simp, by omega, fun ρ1 ρ2 hr hr2 j v x y hx hy rr => ?_⟩; exact g3 ρ1 ρ2 (fun x c o hm => hr x c o (by simp [hm])) (fun k o hm c hc hs => hr2 k o (by simp [hm]) c hc (List.mem_append_left _ hs)) j v x y hx hy rr
       ·obtain ⟨c, t1, t2, t3, t4⟩ := g2 id' o hm; exact .inr ⟨c, t1, by simp [t2], List.mem_append_left _ t3, t4⟩
       ·rcases q2 id' o hm with ⟨k, mm', c1, c2, t1, t2, t3, t4, t5, t6⟩ | ⟨c, t1, t2, t3, t4⟩
        ·exact .inl ⟨k + 1, mm', c1, c2, by rw [show i + (k + 1) = i + 1 + k by omega]; exact t1, by simpa using t2, t3, by rw [show i + (k + 1) = i + 1 + k by omega]; simp [t4], t5, fun ρ1 ρ2 hr hr2 => t6 ρ1 ρ2 (fun x c o hm => hr x c o (by simp [hm])) (fun k o hm c hc hs => hr2 k o (by simp [hm]) c hc (List.mem_append_right _ hs))⟩
        ·exact .inr ⟨c, t1, by simp [t2], List.mem_append_right _ t3, t4⟩
     ·cases e2
    ·cases e2
   ·cases e1
  ·cases e1
 | .pure :: r, i, ss, os, im, bx, hp, e1, e2 => by
  obtain ⟨q1, q2⟩ := Zdc ps r (i + 1) ss os im bx hp (by simpa [lentH] using e1) (by simpa [Zde] using e2); refine ⟨q1, fun id o hm => ?_⟩
  rcases q2 id o hm with ⟨k, mm', c1, c2, t1, t2, t3, t4, t5, t6⟩ | ⟨c, t1, t2, t3, t4⟩
  ·exact .inl ⟨k + 1, mm', c1, c2, by rw [show i + (k + 1) = i + 1 + k by omega]; exact t1, by simpa using t2, t3, by rw [show i + (k + 1) = i + 1 + k by omega]; exact t4, t5, t6⟩
  ·exact .inr ⟨c, t1, t2, t3, t4⟩
 | .own :: r, i, ss, os, im, bx, hp, e1, e2 => by
  obtain ⟨q1, q2⟩ := Zdc ps r (i + 1) ss os im bx hp (by simpa [lentH] using e1) (by simpa [Zde] using e2); refine ⟨q1, fun id o hm => ?_⟩
  rcases q2 id o hm with ⟨k, mm', c1, c2, t1, t2, t3, t4, t5, t6⟩ | ⟨c, t1, t2, t3, t4⟩
  ·exact .inl ⟨k + 1, mm', c1, c2, by rw [show i + (k + 1) = i + 1 + k by omega]; exact t1, by simpa using t2, t3, by rw [show i + (k + 1) = i + 1 + k by omega]; exact t4, t5, t6⟩
  ·exact .inr ⟨c, t1, t2, t3, t4⟩

theorem Zsn {ρ2 : Nat → Loc} : ∀ (vr : List Value) (os : List SV), vr.length = os.length → (∀ (k : Nat) v s, vr[k]? = some v → os[k]? = some s → Rep h ρ2 v s) → Rep h ρ2 (rets vr) (one os)
 | [], [], _, _ => .tup #[] [] rfl (by simp)
 | [v], [s], _, hr => hr 0 v s rfl rfl
 | [], _ :: _, hl, _ => by simp at hl
 | _ :: _, [], hl, _ => by simp at hl
 | [_], _ :: _ :: _, hl, _ => by simp at hl
 | _ :: _ :: _, [_], hl, _ => by simp at hl
 | v :: v' :: vs, s :: s' :: ss, hl, hr => .tup _ _ (by simpa using hl) (fun i u c hu hc => hr i u c (by simpa using hu) hc)

theorem Zhd : ∀ (n : Nat) (l : List SV), Zao l = true → Zao (l.take n) = true ∧ Zao (l.drop n) = true
 | 0, l, h => ⟨by simp [Zao], by simpa using h⟩
 | n + 1, [], h => ⟨by simp [Zao], by simp [Zao]⟩
 | n + 1, c :: cs, h => by simp only [Zao, Bool.and_eq_true] at h; obtain ⟨a, b⟩ := Zhd n cs h.2; exact ⟨by simp [Zao, h.1, a], by simpa using b⟩

theorem Zle : ∀ {l : List SV}, Zcq l = true → ∀ (i : Nat) s, l[i]? = some s → ∃ v, s = .val v
 | [], _, i, s, e => by simp at e
 | .val v :: l, h, 0, s, e => by simp at e; exact ⟨v, e.symm⟩
 | .val v :: l, h, i + 1, s, e => Zle (by simpa [Zcq] using h) i s (by simpa using e)
 | .agg _ :: l, h, i, s, e => by simp [Zcq] at h
 | .tup _ :: l, h, i, s, e => by simp [Zcq] at h
 | .slice .. :: l, h, i, s, e => by simp [Zcq] at h
 | .mapv _ :: l, h, i, s, e => by simp [Zcq] at h
 | .ref .. :: l, h, i, s, e => by simp [Zcq] at h
 | .clo .. :: l, h, i, s, e => by simp [Zcq] at h
 | .ifc .. :: l, h, i, s, e => by simp [Zcq] at h
 | .ptr .. :: l, h, i, s, e => by simp [Zcq] at h
 | .bsl .. :: l, h, i, s, e => by simp [Zcq] at h
 | .osl _ :: l, h, i, s, e => by simp [Zcq] at h
 | .eptr .. :: l, h, i, s, e => by simp [Zcq] at h
 | .omp _ :: l, h, i, s, e => by simp [Zcq] at h
 | .gd .. :: l, h, i, s, e => by simp [Zcq] at h
 | .unk :: l, h, i, s, e => by simp [Zcq] at h

def Goes (X : Cx) (K : St → Prop) (a : Act) (w : World) : Prop := ∃ st, Fits X st a w ∧ K st

theorem Zaz (idf : Nat → Nat) : ∀ (ss : List SV) (i : Nat), argsH idf [] i ss = some (ss, [])
 | [], i => rfl
 | s :: ss, i => by simp [argsH, mdAt, argH, Zaz idf ss (i + 1)]

theorem Zlf {h0 : Hp} {st0 : St} (F0 : FitsAt X h0 ρ st0 a w) (F : FitsAt X h ρ st a w) (hle0 : HLe h0 h) (f : FuncId) (sg : Sig) (pts rts : List TypeId) (ss caps : List SV) (vs cv : Array Value) (dst : Option Nat) (K : St → Prop)
  (hl : vs.size = ss.length) (hr : ∀ (i : Nat) v s, vs[i]? = some v → ss[i]? = some s → Rep h ρ v s) (hcl : cv.size = caps.length) (hcr : ∀ (i : Nat) v s, cv[i]? = some v → caps[i]? = some s → PRep h v s)
  (hc : callC P f sg pts rts ss caps dst st0 st K) :
  (callFunc f (vs ++ cv)).run P w = .ok (.enter f (vs ++ cv)) w ∧
  Calls P f (vs ++ cv) w fun e w'' => ∃ v, e = .returned v ∧ Goes X K (a.put dst v) w'' ∧ w.heap.size ≤ w''.heap.size ∧
   ∀ b, b < w.heap.size → (∀ id ∈ Zc5 st.objs sg.ps 0 ss, live st.objs ρ id → (ρ id).blk ≠ b) → w''.heap[b]? = w.heap[b]? := by
 unfold callC at hc
 split at hc
 ·exact hc.elim
 ·rename_i as ps hpass
  cases hb : (Zcd (ps.filterMap (·.1)) && Zcd (ps.map (·.2)) && Nat.ble sg.ps.length pts.length && sg.rs.all Md.noLend) with
  | false => simp only [hb, cond_false] at hc
  | true =>
   simp only [hb, cond_true] at hc; simp only [Bool.and_eq_true] at hb; obtain ⟨⟨⟨hn1, hn2⟩, hble⟩, hnl⟩ := hb; have hn1 := Zbm hn1; have hn2 := Zbm hn2; have hble := Nat.le_of_ble_eq_true hble; obtain ⟨Q, ⟨⟨fn, hf, hbody, hname⟩, hct⟩, hq⟩ := hc; refine ⟨?_, ?_⟩
   ·simp [callFunc, hf, hname]; intro hnone; simp [hnone] at hbody
   ·let ρc := pull ps ρ (fun _ => noLoc)
    have hpl : Pulls ps ρ ρc := Zf4 ρ _ hn2; obtain ⟨hs, os, e1, e2, e3, e4, e5⟩ := Zeg (P := P) (ρ' := ρc) F.obj pId sg.ps pts ss 0 as ps hpass hpl; have hlen := Zig _ _ _ _ _ _ _ _ _ hpass; have e6 := Zil pId sg.ps as caps 0 hs os e1 (by omega); have hH : Holds h ρc os w := pass_holds e5 hpl hn1 F.sub F.inj; have hGb : ∀ b, Gv os ρc b → ∃ id, id ∈ Zc5 st.objs sg.ps 0 ss ∧ (∃ c, (some id, c) ∈ ps) ∧ live st.objs ρ id ∧ (ρ id).blk = b := fun b hg => by obtain ⟨id, c, hm, hlv, e⟩ := Zo2 e5 hpl hg; exact ⟨id, Zge P st.objs pId sg.ps pts ss 0 as ps hpass id c hm, ⟨c, hm⟩, hlv, e⟩
    have hGx : ∀ b, Gv os ρc b → X.w.heap.size ≤ b ∨ X.G b := fun b hg => by obtain ⟨id, _, _, hlv, rfl⟩ := hGb b hg; exact F.own id hlv
    refine (hct (hs ++ caps) os e6 h ρc w (vs ++ cv) hH F.glob ⟨by simp; omega, fun i v s hv hs' => ?_⟩).mono ?_
    ·simp only [Array.toList_append] at hv; rw [List.getElem?_append] at hv hs'; simp only [Array.length_toList] at hv; have : hs.length = vs.size := (by omega); rw [this] at hs'
     split at hv
     ·rename_i hlt; rw [if_pos hlt] at hs'; have hi : i < ss.length := (by omega); exact e4 i v _ s (List.getElem?_eq_getElem hi) hs' (hr i v _ (by simpa using hv) (List.getElem?_eq_getElem hi))
     ·rename_i hlt; rw [if_neg hlt] at hs'; exact .pure _ _ (hcr _ v s (by simpa using hv) hs')
    ·rintro e w'' ⟨vr, h', ρ2, rs, hr', objs', rfl, hQ, hend, hrep, hhold, hown, hlent, hle, hext, hkp⟩; have hblk : ∀ b, b < w.heap.size → (∀ id ∈ Zc5 st.objs sg.ps 0 ss, live st.objs ρ id → (ρ id).blk ≠ b) → w''.heap[b]? = w.heap[b]? := fun b hlt hno => hkp.block b hlt fun hg => by obtain ⟨id, h1, _, hlv, e⟩ := hGb b hg; exact hno id h1 hlv e
     refine ⟨_, rfl, ?_, hkp.size, hblk⟩; obtain ⟨xs, hxl, hxp, rfl, hrest⟩ := Zoq _ _ _ (hq rs hQ); unfold endH at hend
     split at hend
     ·rename_i hs1 os1 os2 ha hlh
      cases hend
      have l1 := Zhb _ _ _ _ _ _ ha; have l2 := Zg9 _ _ _ _ hlh; have l3 := Zha P sg.ps pts 0 (by omega); simp only [List.drop_zero] at l3; simp only [List.length_append, l3] at hxl; simp at l1 l2; have l4 := hrep.1; have hn : vr.length = rts.length := (by omega); rw [hn] at ha hlh; obtain ⟨hpt, hpd⟩ := Zhd rts.length rs hxp
      cases hbor : (ps.isEmpty && sg.rs.isEmpty && Zcq rs) with
      | true =>
       simp only [hbor, cond_true] at hrest; simp only [Bool.and_eq_true, List.isEmpty_iff] at hbor; obtain ⟨⟨hps, hrs⟩, hav⟩ := hbor
       have hos : os = [] := by
        cases os with
        | nil => rfl
        | cons x xs => obtain ⟨p, hp, _⟩ := e5.at_ x.1 x.2 (by simp); rw [hps] at hp; simp at hp
       subst hos; have hnog : ∀ b, ¬ Gv [] ρc b := fun b ⟨i, ⟨⟨o, e⟩, _⟩, _⟩ => by simp [oget] at e
       have F1 : FitsAt X h0 ρ st0 a w'' := F0.called (Gv [] ρc) (fun i _ => hnog _) hGx hkp (HLe.refl h0) (fun b o v e => hhold.sub b o v (hle b o v (hle0 b o v e))) (fun _ _ _ _ e => e); refine ⟨_, ⟨h0, ρ, F1.put dst (TRep.of_rep' ?_)⟩, hrest⟩
       have hlN : lendN sg.ps = 0 := by
        have : ∀ (ts : List TypeId) (ss : List SV) (i : Nat) (ds : List SV), Zbd P st.objs pId sg.ps i ts ss = some (ds, []) → sg.ps.length ≤ i + ts.length → lendN (sg.ps.drop i) = 0 := by
         intro ts
         induction ts with
         | nil => intro ss i ds e hle; rw [List.drop_of_length_le (by simpa using hle)]; rfl
         | cons t ts ih =>
          intro ss i ds e hle
          cases ss with
          | nil => simp [Zbd] at e
          | cons s ss =>
           simp only [Zbd] at e
           split at e
           ·rename_i d l ds' ls g1 g2; simp at e; obtain ⟨_, rfl, rfl⟩ := e; have := ih ss (i + 1) ds' g2 (by simp at hle; omega)
            rcases Zj0 sg.ps i with ⟨m, r, q1, q2, q3⟩ | ⟨q1, q2, q3⟩
            ·rw [q1]; rw [q3] at this
             cases m with
             | lend ms =>
              rw [q2] at g1; unfold Zfu at g1; simp only [] at g1
              split at g1
              ·split at g1
               ·simp at g1
               ·cases g1
              ·cases g1
             | pure => simpa [lendN] using this
             | own => simpa [lendN] using this
            ·rw [q1]; rfl
           ·cases e
        have := this pts ss 0 as (by rw [hps] at hpass; exact hpass) (by omega)
        simpa using this
       have hfull : rs.take rts.length = rs := List.take_of_length_le (by omega); rw [hfull, hrs, Zaz] at ha
       cases ha
       refine Zsn vr rs hrep.1 (fun k v s hv hs' => ?_); obtain ⟨x, rfl⟩ := Zle hav k s hs'; rw [(hrep.2 k v _ hv hs').val_inv]; exact .pure _ _ (.val _)
      | false =>
       simp only [hbor, cond_false] at hrest
       split at hrest
       ·rename_i im bx rr im' hlb hrb
        cases hck : (Zcd ((im ++ im').map (·.1) ++ bx.map (·.1)) && Zcd ((im ++ im').map (·.2.1)) && (im ++ im').all (fun p => idOK p.1 && idOK p.2.1)) with
        | false => simp only [hck, cond_false] at hrest
        | true =>
         simp only [hck, cond_true] at hrest; simp only [Bool.and_eq_true, List.all_eq_true] at hck; obtain ⟨⟨hnd1, hnd2⟩, hidok⟩ := hck; have hnd1 := Zbm hnd1; have hnd2 := Zbm hnd2; obtain ⟨hndi, hndb, hdis⟩ := List.nodup_append.1 hnd1
         -- what was handed over is gone, and the call has come back
         obtain ⟨Fd, hdp⟩ := Zdj sg.ps ps F
         have hliveD : ∀ i, live (Zbj sg.ps ps st).objs ρ i → live st.objs ρ i ∧ ¬ Gv os ρc (ρ i).blk := by
          rintro i ⟨⟨o, ho⟩, hni⟩; obtain ⟨ho', hnp⟩ := hdp i o ho; refine ⟨⟨ho', hni⟩, fun hg => ?_⟩; obtain ⟨id, _, ⟨c, hm⟩, hlv, e⟩ := hGb _ hg; by_cases hid : id = i
          ·subst hid; exact hnp c hm
          ·exact F.inj id i hlv ⟨ho', hni⟩ hid e
         have Fc : FitsAt X h' ρ (Zbj sg.ps ps st) a w'' := Fd.called (Gv os ρc) (fun i hi => (hliveD i hi).2) hGx hkp hle hhold.sub hext
         -- the objects that come in
         obtain ⟨q1, q2⟩ := Zdc (h := h') ps sg.ps 0 (rs.drop rts.length) os2 im bx hpd hlh hlb
         have hres : (∀ x c o, (x, c, o) ∈ im' → (c, o) ∈ os1 ∧ ∀ y, o ≠ .box y) ∧ ∀ ρ1 : Nat → Loc, (∀ x c o, (x, c, o) ∈ im' → ρ1 x = ρ2 c) → (dst = none ∧ rr = .unk) ∨ Rep h' ρ1 (rets vr) rr := by
          unfold Ztv at hrb
          split at hrb
          ·cases hrb; exact ⟨by simp, fun ρ1 _ => .inl ⟨rfl, rfl⟩⟩
          ·rename_i d
           split at hrb
           ·rename_i hs2 os3 ha2
            cases hrb
            obtain ⟨t1, t2⟩ := Zld (h := h') (cId d) rId sg.rs hnl _ 0 hs2 hr' os3 os1 hpt ha2 ha; refine ⟨fun x c o hm => ?_, fun ρ1 hr1 => .inr ?_⟩
            ·simp only [List.mem_map] at hm; obtain ⟨p, hpm, e⟩ := hm
             cases e
             obtain ⟨k, e, hm2, hb⟩ := t1 p.1 p.2 hpm; have : p.1 - cId d 0 = k := by rw [e]; simp [cId]
             rw [this]; exact ⟨hm2, hb⟩
            ·refine Zsn vr hs2 ?_ (fun k v s hv hs' => ?_)
             ·rw [hrep.1, Zhb _ _ _ _ _ _ ha, Zhb _ _ _ _ _ _ ha2]
             ·have hk : k < hr'.length := (by have := (List.getElem?_eq_some_iff.1 hv).1; rw [← hrep.1]; exact this); refine t2 ρ1 ρ2 (fun k o hm => ?_) k v s _ hs' (List.getElem?_eq_getElem hk) (hrep.2 k v _ hv (List.getElem?_eq_getElem hk)); have := hr1 (cId d k) (rId (cId d k - cId d 0)) o (List.mem_map.2 ⟨_, hm, rfl⟩); rw [this]; congr 2; simp [cId]
           ·cases hrb
         obtain ⟨q3, q4⟩ := hres
         have hmem : ∀ x c o, (x, c, o) ∈ im ++ im' → (c, o) ∈ os1 ++ os2 ∧ ∀ y, o ≠ .box y := fun x c o hm => by
          rcases List.mem_append.1 hm with hm | hm
          ·exact ⟨by simp [(q1 x c o hm).1], (q1 x c o hm).2⟩
          ·exact ⟨by simp [(q3 x c o hm).1], (q3 x c o hm).2⟩
         have hliveO : ∀ c o, (c, o) ∈ os1 ++ os2 → (ρ2 c).none = false → live (os1 ++ os2) ρ2 c := fun c o hm hn' => ⟨Zu8 hm, hn'⟩
         -- blocks that come back are other ones than those that stayed
         have hnewblk : ∀ c o, (c, o) ∈ os1 ++ os2 → (ρ2 c).none = false → (X.w.heap.size ≤ (ρ2 c).blk ∨ X.G (ρ2 c).blk) ∧ ∀ k, live (Zbj sg.ps ps st).objs ρ k → (ρ k).blk ≠ (ρ2 c).blk := fun c o hm hn' => by
          have ho := hown c (hliveO c o hm hn'); refine ⟨?_, fun k hk e => ?_⟩
          ·rcases ho with ho | ho
           ·exact .inl (Nat.le_trans F.kp.size ho)
           ·exact hGx _ ho
          ·obtain ⟨hk1, hk2⟩ := hliveD k hk
           rcases ho with ho | ho
           ·obtain ⟨⟨o', ho'⟩, hnk⟩ := hk1; have := ObOK.blk_lt (F.obj k o' ho') hnk; omega
           ·rw [← e] at ho; exact hk2 ho
         obtain ⟨ρf, Ff, g1, g2, g3⟩ := Zie ρ2 (im ++ im') Fc hndi (fun i c o hm => ⟨(by have := hidok (i, c, o) hm; simp only at this; exact this.1), hhold.obj c o (hmem i c o hm).1, (hmem i c o hm).2, hnewblk c o (hmem i c o hm).1⟩) (fun i c o i' c' o' m1 m2 hne n1 n2 => by
          have hcc : c ≠ c' := fun e => by
           subst e
           have : ∀ (l : List (Nat × Nat × Ob)), (l.map (·.2.1)).Nodup → (i, c, o) ∈ l → (i', c, o') ∈ l → i = i' := by
            intro l
            induction l with
            | nil => intro _ h1; simp at h1
            | cons p l ih =>
             intro hnd h1 h2; simp only [List.map_cons, List.nodup_cons] at hnd
             rcases List.mem_cons.1 h1 with e1 | h1'
             ·rcases List.mem_cons.1 h2 with e2 | h2'
              ·rw [← e1] at e2; cases e2; rfl
              ·exfalso; apply hnd.1; rw [← e1]; exact List.mem_map.2 ⟨_, h2', rfl⟩
             ·rcases List.mem_cons.1 h2 with e2 | h2'
              ·exfalso; apply hnd.1; rw [← e2]; exact List.mem_map.2 ⟨_, h1', rfl⟩
              ·exact ih hnd.2 h1' h2'
           exact hne (this _ hnd2 m1 m2)
          exact hhold.inj c c' (hliveO c o (hmem i c o m1).1 n1) (hliveO c' o' (hmem i' c' o' m2).1 n2) hcc)
         have hrho : ∀ x c o, (x, c, o) ∈ im → ρf x = ρ2 c := fun x c o hm => g1 x c o (by simp [hm])
         -- the boxes
         have hfid : ∀ id o, (id, o) ∈ bx → ρf id = ρ id := fun id o hm => g2 id (fun p hp e => hdis p.1 (List.mem_map_of_mem (f := (·.1)) hp) id (List.mem_map_of_mem (f := (·.1)) hm) e); have hstay : ∀ k c, (some k, c) ∈ ps → c ∈ Zdu 0 sg.ps → ρ2 c = ρ k := fun k c hk hc => (hlent.2 c hc).trans (hpl (some k, c) hk)
         have hbx : ∀ id o, (id, o) ∈ bx → ∃ c o2, (some id, c) ∈ ps ∧ (c, o2) ∈ os2 ∧ idOK c = false ∧ ((ρ id).none = false → (ρ2 c).blk = (ρ id).blk ∧ (ρ2 c).none = false) ∧ ObOK h' ρf w'' id o := fun id o hm => by
          have hf := hfid id o hm
          rcases q2 id o hm with ⟨k, mm, cs1, cs2, t1, t2, rfl, t4, t5, t6⟩ | ⟨c, t1, t2, t3, t4⟩
          ·rw [Nat.zero_add] at t1 t4; have hloc : ρc (pId k) = ρ id := hpl (some id, pId k) t1; obtain ⟨hl1, hl2⟩ := hlent.1 k mm t2; rw [hloc] at hl1 hl2; obtain ⟨hb1, ⟨cv', ty, hb2, hb3, hb4⟩, hb5⟩ := hhold.obj (pId k) (.box cs2) (by simp [t4]); refine ⟨pId k, .box cs2, t1, t4, Zp8 k, fun _ => ⟨hl2, hb1⟩, ⟨by rw [hf]; exact hl1, ⟨cv', ty, by rw [hf, ← hl2]; exact hb2, by omega, fun i v c hv hcc => ?_⟩, by rw [hf, ← hl2]; exact hb5⟩⟩; have hi : i < cs2.length := by have := (List.getElem?_eq_some_iff.1 hcc).1; omega
           obtain ⟨r1, r2⟩ := hb4 i v _ hv (List.getElem?_eq_getElem hi); exact ⟨t6 ρf ρ2 hrho (fun k o hm c hc hs => (hfid k o hm).trans (hstay k c hc hs).symm) i v c _ hcc (List.getElem?_eq_getElem hi) r1, r2⟩
          ·have hloc : ρ2 c = ρ id := hstay id c t1 t3; refine ⟨c, o, t1, t2, Zno t3, fun hn' => ⟨by rw [hloc], by rw [hloc]; exact hn'⟩, (hhold.obj c o (by simp [t2])).move t4 (by rw [hf, hloc])⟩
         have Fb := Zjx (ρ := ρf) bx Ff hndb (fun i o hm => by
          obtain ⟨c0, o2, t1, t4, hid0, hl, hob⟩ := hbx i o hm; have hf := hfid i o hm; have hi1 : ∀ p ∈ im ++ im', p.1 ≠ i := fun p hp e => hdis p.1 (List.mem_map_of_mem (f := (·.1)) hp) i (List.mem_map_of_mem (f := (·.1)) hm) e; refine ⟨?_, hob, fun hn' => ?_⟩
          ·cases e : oget (Zh6 (im ++ im') (Zbj sg.ps ps st)).objs i with
           | none => rfl
           | some x =>
            rcases g3 i x e with hm' | ⟨_, o', ho'⟩
            ·obtain ⟨p, hp, e'⟩ := List.mem_map.1 hm'; exact absurd e' (hi1 p hp)
            ·exact absurd t1 ((hdp i o' ho').2 _)
          ·rw [hf] at hn'; obtain ⟨hl2, hl3⟩ := hl hn'; refine ⟨by rw [hf, ← hl2]; exact (hnewblk c0 o2 (by simp [t4]) hl3).1, fun k' hk' e => ?_⟩; obtain ⟨⟨x, hx⟩, hnk⟩ := hk'; rw [hf] at e
           rcases g3 k' x hx with hm' | ⟨hno, o', ho'⟩
           ·obtain ⟨⟨x', c, o''⟩, hp, rfl⟩ := List.mem_map.1 hm'; rw [g1 x' c o'' hp] at e hnk; have hmo := (hmem x' c o'' hp).1; refine hhold.inj c c0 (hliveO c o'' hmo hnk) (hliveO c0 o2 (by simp [t4]) hl3) (fun e' => ?_) (by rw [e, hl2]); subst e'; have := hidok (x', _, o'') hp; simp only [hid0] at this; exact absurd this.2 (by simp)
           ·rw [g2 k' hno] at e hnk
            exact (hnewblk c0 o2 (by simp [t4]) hl3).2 k' ⟨⟨o', ho'⟩, hnk⟩ (by rw [e, hl2])) (fun i o i' o' m1 m2 hne n1 n2 => by
          obtain ⟨c, o2, t1, t4, hid0, hl, hob⟩ := hbx i o m1; obtain ⟨c', o2', t1', t4', hid0', hl', hob'⟩ := hbx i' o' m2; rw [hfid i o m1] at n1 ⊢; rw [hfid i' o' m2] at n2 ⊢; obtain ⟨hl2, hl3⟩ := hl n1; obtain ⟨hl2', hl3'⟩ := hl' n2; rw [← hl2, ← hl2']; refine hhold.inj c c' (hliveO c o2 (by simp [t4]) hl3) (hliveO c' o2' (by simp [t4']) hl3') (fun e => ?_); have e1 : ρc c = ρ i := hpl (some i, c) t1; have e2 : ρc c' = ρ i' := hpl (some i', c') t1'; rw [e] at e1; rw [e1] at e2
          have li : live st.objs ρ i := ⟨e5.here i _ t1, n1⟩
          have li' : live st.objs ρ i' := ⟨e5.here i' _ t1', n2⟩
          exact F.inj i i' li li' hne (by rw [e2]))
         refine ⟨_, ⟨h', ρf, ?_⟩, hrest⟩
         rcases q4 ρf (fun x c o hm => g1 x c o (by simp [hm])) with ⟨hd, rfl⟩ | hrr
         ·subst hd; exact Fb.put none (TRep.rep_unk _ (rets vr))
         ·exact Fb.put dst (TRep.of_rep' hrr)
       ·exact hrest.elim
     ·cases hend

end

section
variable {X : Cx} {h : Hp} {ρ : Nat → Loc} {st : St} {a : Act} {w : World} {P : Program}

theorem Znp {n : Int} {K : Nat → Prop} : ∀ (m j : Nat), caseN n K m j → ∀ i, j ≤ i → i < j + m → n = Int.ofNat i → K i
 | 0, j, _, i, h1, h2, _ => by omega
 | m + 1, j, h, i, h1, h2, e => by
  by_cases hij : i = j
  ·subst hij; exact h.1 e
  ·exact Znp m (j + 1) h.2 i (by omega) (by omega) e

theorem Zhe {m : Nat} {i : Operand} {n : Int} {K : Nat → Prop} (hx : arrIx m i n K) (hi : ∀ kd j, i = .const (.int kd (.ofNat j)) → n = Int.ofNat j) : ∃ j, j < m ∧ n = Int.ofNat j ∧ K j := by
 unfold arrIx at hx
 split at hx
 ·rename_i kd j
  cases hb : Nat.blt j m with
  | false => simp [hb] at hx
  | true => simp only [hb, cond_true] at hx; exact ⟨j, Nat.le_of_ble_eq_true hb, hi kd j rfl, hx⟩
 ·cases hb : Nat.ble m 16 with
  | false => simp [hb] at hx
  | true => simp only [hb, cond_true] at hx; obtain ⟨⟨h1, h2⟩, h3⟩ := hx; refine ⟨n.toNat, by simp at h2; omega, by simp; omega, Znp m 0 h3 n.toNat (by omega) (by simp at h2; omega) (by simp; omega)⟩

theorem Rep.slice_pure {v : Value} {sz : Nat} {rows : List (List SV)} {tok : Nat} (r : Rep h ρ v (.slice sz rows tok)) : PRep h v (.slice sz rows 0) := by
 cases r with
 | pure _ _ hp => exact hp.tok0

theorem PRep.sub {p : Option Addr} {len cap sz : Nat} {rows : List (List SV)} (r : PRep h (.slice p len cap) (.slice sz rows 0)) {l hh m z : Nat} (hl : l ≤ hh) (hr : hh ≤ rows.length) (hm : hh ≤ m) (hc : m ≤ cap) (hz : z = sz ∨ sz = 0) (tok : Nat) (ht : tok ≤ 1) (h1 : tok = 1 → m = hh) :
  PRep h (.slice (if m = l then p else p.map (·.add (l * z))) (hh - l) (m - l)) (.slice sz ((rows.take hh).drop l) tok) := by
 by_cases he : hh = l
 ·subst he; have : (rows.take hh).drop hh = [] := (by simp); rw [this, Nat.sub_self]; refine .empty _ _ _ tok ht (fun e => by have := h1 e; omega) (fun e => ?_); generalize hv : Value.slice p len cap = v at r
  cases r with
  | empty p' cap' _ _ _ _ hn =>
   cases hv
   split at e
   ·omega
   ·simp at e; have := hn e; omega
  | slice b off cap' _ _ _ vs _ _ _ _ _ _ _ _ =>
   cases hv
   split at e <;> simp at e
 ·generalize hv : Value.slice p len cap = v at r
  cases r with
  | empty => cases hv; simp at hr; omega
  | slice b off cap' _ _ _ vs hpos hz' hh' hr' ho' _ _ hle =>
   cases hv
   have hml : ¬ m = l := (by omega); simp only [hml, if_false, Option.map_some, Zb0]; have hz2 : z = sz := (by rcases hz with h | h; exact h; omega); subst hz2; have hlen : ((rows.take hh).drop l).length = hh - l := (by simp; omega); rw [← hlen]
   have hget : ∀ i r, ((rows.take hh).drop l)[i]? = some r → rows[l + i]? = some r := by
    intro i r e; rw [List.getElem?_drop, List.getElem?_take] at e
    split at e
    ·exact e
    ·cases e
   refine .slice b (off + l * z) (m - l) z _ tok (fun i j => vs (l + i) j) hpos (fun i r e => hz' _ r (hget i r e)) (fun i r j c e1 e2 => ?_) (fun i r j c e1 e2 => hr' _ r j c (hget i r e1) e2) (fun i r j c e1 e2 => ho' _ r j c (hget i r e1) e2) ht (fun e => by have := h1 e; omega) (by omega); have := hh' (l + i) r j c (hget i r e1) e2; rwa [Nat.add_mul, ← Nat.add_assoc] at this

theorem Zhz {gv : List (Nat × Bool) → Operand → SV} {w' : World} (hsv : ∀ x, Rep h ρ (a.eval x) (gv [] x)) (isS : Bool) (len cap : Nat) {lo hi : Option Operand} {l h' : Int}
  (hl : bndOf gv 0 lo = some l) (hh : bndOf gv (Int.ofNat len) hi = some h') (h0 : 0 ≤ l) (h1 : l ≤ h') (h2 : h' ≤ (len : Int)) (h3 : h' ≤ (cap : Int)) :
  (Instr.sliceBounds isS len cap (lo.map a.eval) (hi.map a.eval) none).run P w' = .ok (l.toNat, h'.toNat, cap) w' := by
 have key : ∀ x n, bndOf gv n (some x) = some l → ∃ kd, a.eval x = .int kd l := by
  intro x n e; simp only [bndOf] at e
  split at e
  ·rename_i kd n' hx
   cases e
   have := hsv x; rw [hx] at this; exact ⟨kd, this.val_inv⟩
  ·cases e
 have key' : ∀ x n, bndOf gv n (some x) = some h' → ∃ kd, a.eval x = .int kd h' := by
  intro x n e; simp only [bndOf] at e
  split at e
  ·rename_i kd n' hx
   cases e
   have := hsv x; rw [hx] at this; exact ⟨kd, this.val_inv⟩
  ·cases e
 have hlt : l ≤ (h'.toNat : Int) := by omega
 cases lo with
 | none =>
  simp [bndOf] at hl; subst hl
  cases hi with
  | none => simp [bndOf] at hh; subst hh; simp [Instr.sliceBounds]
  | some y =>
   obtain ⟨kd, hy⟩ := key' y _ hh
   have : (0 : Int) ≤ h' ∧ h' ≤ (cap : Int) := ⟨by omega, h3⟩
   simp [Instr.sliceBounds, Instr.sliceBound, hy, asIntOf, this]
 | some x =>
  obtain ⟨kd, hx⟩ := key x _ hl
  cases hi with
  | none =>
   simp [bndOf] at hh; subst hh
   have : (0 : Int) ≤ l ∧ l ≤ (len : Int) := ⟨h0, h1⟩
   simp [Instr.sliceBounds, Instr.sliceBound, hx, asIntOf, this]
  | some y =>
   obtain ⟨kd', hy⟩ := key' y _ hh
   have g1 : (0 : Int) ≤ h' ∧ h' ≤ (cap : Int) := ⟨by omega, h3⟩
   have g2 : (0 : Int) ≤ l ∧ l ≤ max h' 0 := ⟨h0, by omega⟩
   simp [Instr.sliceBounds, Instr.sliceBound, hx, hy, asIntOf, g1, g2]

theorem Zor {gv : List (Nat × Bool) → Operand → SV} {w' : World} (hsv : ∀ x, Rep h ρ (a.eval x) (gv [] x)) (len cap : Nat) {lo : Option Operand} {hi m : Operand} {kd : IntKind} {l h' : Int}
  (hl : bndOf gv 0 lo = some l) (hh : bndOf gv (Int.ofNat len) (some hi) = some h') (hm : a.eval m = .int kd h') (h0 : 0 ≤ l) (h1 : l ≤ h') (h3 : h' ≤ (cap : Int)) :
  (Instr.sliceBounds true len cap (lo.map a.eval) (some (a.eval hi)) (some (a.eval m))).run P w' = .ok (l.toNat, h'.toNat, h'.toNat) w' := by
 have hhi : ∃ kd, a.eval hi = .int kd h' := by
  simp only [bndOf] at hh
  split at hh
  ·rename_i kd n' hx
   cases hh
   have := hsv hi; rw [hx] at this; exact ⟨kd, this.val_inv⟩
  ·cases hh
 obtain ⟨kd2, hhi⟩ := hhi
 have g1 : (0 : Int) ≤ h' ∧ h' ≤ (cap : Int) := ⟨by omega, h3⟩
 have g3 : (0 : Int) ≤ h' ∧ h' ≤ max h' 0 := ⟨by omega, by omega⟩
 cases lo with
 | none => simp [bndOf] at hl; subst hl; simp [Instr.sliceBounds, Instr.sliceBound, hhi, hm, asIntOf, g1, g3]
 | some x =>
  have hx : ∃ kd, a.eval x = .int kd l := by
   simp only [bndOf] at hl
   split at hl
   ·rename_i kd n' hx
    cases hl
    have := hsv x; rw [hx] at this; exact ⟨kd, this.val_inv⟩
   ·cases hl
  obtain ⟨kd3, hx⟩ := hx
  have g2 : (0 : Int) ≤ l ∧ l ≤ max h' 0 := ⟨h0, by omega⟩
  simp [Instr.sliceBounds, Instr.sliceBound, hhi, hm, hx, asIntOf, g1, g2, g3]

theorem FitsAt.val (F : FitsAt X h ρ st a w) (x : Operand) : Rep h ρ (a.eval x) (st.val x) := F.operand [] (by simp) x

theorem FitsAt.pureOps (F : FitsAt X h ρ st a w) (xs : List Operand) : ∃ h', HLe h h' ∧ FitsAt X h' ρ (pureOps xs st) a w := F.frzAll _

theorem Zhf (F : FitsAt X h ρ st a w) {i : Operand} {kd' : IntKind} {n : Int} (hi : st.val i = .val (.int kd' n)) : ∀ kd j, i = .const (.int kd (.ofNat j)) → n = Int.ofNat j := by
 intro kd j e; subst e; have := F.val (.const (.int kd (.ofNat j))); rw [hi] at this; have := this.val_inv; simp [Act.eval] at this; exact this.2.symm

theorem Goes.put {K : St → Prop} (F : FitsAt X h ρ st a w) (d : Option Nat) {v : Value} {s : SV} (r : Rep h ρ v s) (hk : K (st.put d s)) : Goes X K (a.put d v) w :=
 ⟨_, ⟨h, ρ, F.put d (TRep.of_rep' r)⟩, hk⟩

theorem Zj2 {rows : List (List SV)} {n : Int} {cs : List SV} (h0 : 0 ≤ n) (h1 : n < rlen rows) (e : rget rows n = cs) : n.toNat < rows.length ∧ rows[n.toNat]? = some cs := by
 simp only [rlen] at h1; have hlt : n.toNat < rows.length := by simp at h1; omega
 refine ⟨hlt, ?_⟩; rw [← e, rget, List.getD_eq_getElem?_getD, List.getElem?_eq_getElem hlt]; rfl

theorem Zw8 {sz : Nat} {rows : List (List SV)} {l : Loc} (o : OwnOK h w l sz rows) {n : Nat} {cs : List SV} (hr : rows[n]? = some cs) :
  ∃ vs : List Value, Zh2 w l.blk (l.off + n * sz) vs ∧ vs.length = cs.length ∧ ∀ (j : Nat) v c, vs[j]? = some v → cs[j]? = some c → Rep h ρ v c := by
 obtain ⟨cv, t, fz, hc, hs, hf, hv⟩ := o.hblk; have hget : ∀ (j : Nat) c, cs[j]? = some c → ∃ v, cv[l.off + n * sz + j]? = some v ∧ PRep h v c := fun j c hcj => by obtain ⟨v, e1, e2, _⟩ := hv n cs j c hr hcj; exact ⟨v, e1, e2⟩
 refine ⟨(List.range cs.length).map fun j => (cv[l.off + n * sz + j]?).getD undef, fun j v hj => ?_, by simp, fun j v c hj hcj => ?_⟩
 ·have hlt : j < cs.length := (by have := (List.getElem?_eq_some_iff.1 hj).1; simpa using this); obtain ⟨v', e1, _⟩ := hget j _ (List.getElem?_eq_getElem hlt); simp [hlt, e1] at hj; subst hj; simp [World.cell?, hc, e1]
 ·have hlt : j < cs.length := (List.getElem?_eq_some_iff.1 hcj).1; obtain ⟨v', e1, e2⟩ := hget j c hcj; simp [hlt, e1] at hj; subst hj; exact .pure _ _ e2

theorem Znq {p : Option Addr} {len cap : Nat} {rows : List (List SV)} (hlen : len = rows.length) (hb : Zc8 rows) (hp : 0 < len → ∃ b off, p = some ⟨b, off, none⟩ ∧ ∀ (i : Nat) r c, rows[i]? = some r → r[0]? = some c → ∃ v, w.cell? ⟨b, off + i, none⟩ = some v ∧ PRep h v c)
  (w' : World) (hw : ∀ b off, 0 < len → p = some ⟨b, off, none⟩ → w'.heap[b]? = w.heap[b]?) : (Conv.bytesToString (.slice p len cap)).run P w' = .ok (.string (bstr rows)) w' := by
 have key : ∀ (rows : List (List SV)), Zc8 rows → ∃ ns : List Int, rows = ns.map (fun n => [.val (.int .u8 n)]) := by
  intro rows
  induction rows with
  | nil => intro _; exact ⟨[], rfl⟩
  | cons r rows ih => intro hb; obtain ⟨ns, e⟩ := ih (fun r hr => hb r (by simp [hr])); obtain ⟨n, e1, _⟩ := hb r (by simp); exact ⟨n :: ns, by simp [e1, e]⟩
 obtain ⟨ns, rfl⟩ := key rows hb
 have hfold : ∀ (ns : List Int) (s : ByteArray), ns.foldl (fun r n => r.push (UInt8.ofNat n.toNat)) s = ⟨s.data ++ (ns.map fun n => UInt8.ofNat n.toNat).toArray⟩ := by
  intro ns
  induction ns with
  | nil => intro s; simp
  | cons n ns ih => intro s; rw [List.foldl_cons, ih]; simp [ByteArray.push]
 have hstr : bstr (ns.map (fun n => [.val (.int .u8 n)])) = ns.foldl (fun r n => r.push (UInt8.ofNat n.toNat)) ByteArray.empty := (by rw [hfold]; simp [bstr, Zfo, Function.comp_def, ByteArray.empty, ByteArray.emptyWithCapacity]; rfl); simp at hlen; subst hlen; by_cases h0 : 0 < ns.length
 ·obtain ⟨b, off, rfl, hc⟩ := hp h0; rw [hstr]; refine run_bytesToString w' _ _ cap ns ?_
  have := run_loadCells_list (P := P) w' ⟨b, off, none⟩ (ns.map (Value.int .u8)) (fun j v hv => by
   rw [Zb0]; simp at hv; obtain ⟨n, hn, rfl⟩ := hv; obtain ⟨u, hu, hr⟩ := hc j [.val (.int .u8 n)] (.val (.int .u8 n)) (by simp [hn]) rfl
   cases hr
   exact Zfm (hw b off h0 rfl) hu)
  simpa using this
 ·have hns : ns = [] := by cases ns with
   | nil => rfl
   | cons => simp at h0
  subst hns
  cases p with
  | none => simp [Conv.bytesToString, bstr]; rfl
  | some ad => have : (loadCells ad 0).run P w' = .ok (([] : List Int).map (Value.int .u8)).toArray w' := (by simp [loadCells, loadCellsFrom]); have := run_bytesToString w' ad 0 cap [] this; rw [hstr]; exact this

theorem PRep.cells {v : Value} {sz : Nat} {rows : List (List SV)} {tok : Nat} (hs : HSub h w) (r : PRep h v (.slice sz rows tok)) : ∃ p cap, v = .slice p rows.length cap ∧ (0 < rows.length → ∃ b off, p = some ⟨b, off, none⟩ ∧ 0 < sz ∧ (∀ (i : Nat) r, rows[i]? = some r → r.length = sz) ∧
  ∀ (i : Nat) r (j : Nat) c, rows[i]? = some r → r[j]? = some c → ∃ v, w.cell? ⟨b, off + i * sz + j, none⟩ = some v ∧ PRep h v c ∧ v.oneCell' = true) := by
 cases r with
 | empty p cap _ _ ht h1 hn => exact ⟨p, cap, rfl, fun h => by simp at h⟩
 | slice b off cap _ _ _ vs hpos hz hh hr ho ht h1 hle => exact ⟨_, cap, rfl, fun _ => ⟨b, off, rfl, hpos, hz, fun i r j c e1 e2 => ⟨vs i j, hs _ _ _ (hh i r j c e1 e2), hr i r j c e1 e2, ho i r j c e1 e2⟩⟩⟩

theorem Zd3 (F : FitsAt X h ρ st a w) {v : Value} {s : SV} {sz : Nat} {rows : List (List SV)} (r : Rep h ρ v s) (e : Zio st.objs s = some (sz, rows)) : ∃ p cap, v = .slice p rows.length cap ∧ (0 < rows.length → ∃ b off, p = some ⟨b, off, none⟩ ∧ 0 < sz ∧
  (∀ (i : Nat) r, rows[i]? = some r → r.length = sz) ∧ ∀ (i : Nat) r (j : Nat) c, rows[i]? = some r → r[j]? = some c → ∃ v, w.cell? ⟨b, off + i * sz + j, none⟩ = some v ∧ PRep h v c ∧ v.oneCell' = true) := by
 unfold Zio at e
 split at e
 ·cases e
  exact r.slice_pure.cells F.sub
 ·rename_i id
  split at e
  ·rename_i sz' rows' ho
   cases e
   rcases F.obj id _ ho with ⟨hn, rfl⟩ | ⟨hn, o⟩
   ·rcases r.osl_inv with ⟨_, p, rfl⟩ | ⟨hn', _⟩
    ·exact ⟨p, 0, rfl, fun h => by simp at h⟩
    ·rw [hn] at hn'; cases hn'
   ·rcases r.osl_inv with ⟨hn', _⟩ | ⟨_, rfl⟩
    ·rw [hn] at hn'; cases hn'
    ·refine ⟨_, _, by rw [o.hlen], fun _ => ⟨_, _, rfl, o.pos, o.hrow, fun i r j c e1 e2 => ?_⟩⟩; obtain ⟨cv, t, fz, hc, hs, hf, hv⟩ := o.hblk; obtain ⟨v, q1, q2, q3⟩ := hv i r j c e1 e2; exact ⟨v, by simp [World.cell?, hc, q1], q2, q3⟩
  ·cases e
 ·cases e

theorem Zhg {P : Program} {t : TypeId} {R : Value → Prop} {K : SV → Prop} (h : fres P t R K) : ∃ v, R v ∧ K (.val v) := by
 unfold fres at h
 split at h
 ·exact ⟨_, h.choose_spec⟩
 ·exact ⟨_, h.choose_spec⟩
 ·exact ⟨_, h.choose_spec⟩
 ·obtain ⟨a, b, h⟩ := h; exact ⟨_, h⟩
 ·exact h.elim

theorem Zp9 {t : TypeId} {kd : IntKind} {m : Nat} (hb : bigT P t = some (kd, m)) : ∃ e, P.underlying t = some (.array m e) ∧ P.underlying e = some (.int kd) ∧ szT P e = some 1 ∧ szT P t = some m := by
 unfold bigT at hb
 split at hb
 ·rename_i m' e hu
  cases h16 : Nat.blt 16 m' with
  | false => simp only [h16, cond_false] at hb; cases hb
  | true =>
   simp only [h16, cond_true] at hb
   split at hb
   ·rename_i kd' n h1 h2 h3
    cases hn : Nat.beq n m' with
    | false => simp only [hn, cond_false] at hb; cases hb
    | true =>
     simp only [hn, cond_true] at hb
     cases hb
     have := Nat.eq_of_beq_eq_true hn; subst this; exact ⟨e, hu, h1, h2, h3⟩
   ·cases hb
 ·cases hb

theorem Znr {kd : IntKind} {ns : List Int} {vs : Array Value} (hl : vs.size = ns.length) (hr : ∀ (i : Nat) v c, vs[i]? = some v → (ns.map fun x => SV.val (.int kd x))[i]? = some c → Rep h ρ v c) : vs.toList = ns.map (Value.int kd) := by
 apply List.ext_getElem?; intro i; by_cases hi : i < ns.length
 ·have h1 : vs[i]? = some vs[i] := Array.getElem?_eq_getElem (by omega); have h2 := hr i vs[i] (.val (.int kd ns[i])) h1 (by simp [hi]); have h3 := h2.val_inv; rw [Array.getElem?_toList, h1, h3]; simp [hi]
 ·rw [List.getElem?_eq_none (by simp; omega), List.getElem?_eq_none (by simp; omega)]

theorem Zqa {b : Nat} {t : TypeId} {kd : IntKind} {m : Nat} {ns : List Int} (hb : bigT P t = some (kd, m)) (hl : ns.length = m) (hc : Zh2 w b 0 (ns.map (Value.int kd))) :
  ∃ vs : Array Value, vs.toList = ns.map (Value.int kd) ∧ ∀ w' : World, w'.heap[b]? = w.heap[b]? → (loadVar t ⟨b, 0, none⟩).run P w' = .ok (.agg vs) w' := by
 obtain ⟨e, h1, h2, h3, h4⟩ := Zp9 hb; have hag : Zbb P t = true := (by simp [Zbb, h1]); have hp : partN P t 0 (ns.map fun x => SV.val (.int kd x)) = some (.agg (ns.map fun x => SV.val (.int kd x))) := by unfold partN; simp only [h1, h4, hag, cond_true, Zbi, Ze2, Ze3]; have : Nat.ble (0 + m) (ns.map fun x => SV.val (.int kd x)).length = true := Nat.ble_eq_true_of_le (by simp; omega); rw [this]; simp only [cond_true, List.drop_zero, Option.some.injEq, SV.agg.injEq]; exact List.take_of_length_le (by simp; omega)
 obtain ⟨v, hrun, hr⟩ := Zdf (P := P) (h := fun _ _ => none) (ρ := fun _ => noLoc) (cs := ns.map fun x => SV.val (.int kd x)) hc (by simp) (fun j v c hv hc => by
  simp at hv hc; obtain ⟨x1, e1, rfl⟩ := hv; obtain ⟨x2, e2, rfl⟩ := hc; rw [e1] at e2; cases e2
  exact .pure _ _ (.val _)) hp
 obtain ⟨vs, rfl, hs, hcv⟩ := hr.agg_inv'; exact ⟨vs, Znr (by simpa using hs) hcv, hrun⟩

theorem Zhh (F : FitsAt X h ρ st a w) {id m : Nat} {kd : IntKind} {ns : List Int} (ho : oget st.objs id = some (.arr kd m ns)) :
  ns.length = m ∧ Zh2 w (ρ id).blk 0 (ns.map (Value.int kd)) := by
 obtain ⟨hn, ⟨cs, t, hc, hm, hv⟩, hno⟩ := F.obj id _ ho; refine ⟨hm, fun j v hj => ?_⟩; rw [← hv] at hj; simp [World.cell?, hc]
 simpa using hj

theorem Zj3 {kd : IntKind} : ∀ {cs : List SV} {ns : List Int}, Zn4 kd cs = some ns → cs = ns.map fun x => SV.val (.int kd x)
 | [], ns, e => by cases e; rfl
 | c :: cs, ns, e => by
  unfold Zn4 at e
  split at e
  ·rename_i h; cases h
  ·rename_i kd' x cs' heq
   cases heq
   by_cases hk : kd' = kd
   ·subst hk; simp only [decide_true, cond_true] at e
    split at e
    ·rename_i ns' h'
     cases e
     rw [Zj3 h']; rfl
    ·cases e
   ·simp [hk] at e
  ·cases e

theorem Zqb (kd : IntKind) (i v : Int) (hi : 0 ≤ i) : ∀ (ns : List Int) (j : Nat), putsN kd i v j ns = (ns.mapIdx fun k x => SV.val (.int kd (if i = ((j + k : Nat) : Int) then v else x)))
 | [], j => by simp [putsN]
 | x :: xs, j => by
  rw [List.mapIdx_cons]; unfold putsN; rw [Zqb kd i v hi xs (j + 1)]; simp only [apick, Nat.add_zero, List.cons.injEq]; refine ⟨rfl, ?_⟩; congr 1
  funext k y
  have : j + 1 + k = j + (k + 1) := (by omega); rw [this]

theorem Zos (kd : IntKind) (i v : Int) (ns : List Int) (h0 : 0 ≤ i) (h1 : i < ns.length) : Zbs i.toNat [SV.val (.int kd v)] (ns.map fun x => SV.val (.int kd x)) = some (putsN kd i v 0 ns) := by
 have key : ∀ (n : Nat) (l : List SV), n < l.length → Zbs n [SV.val (.int kd v)] l = some (l.set n (.val (.int kd v))) := by
  intro n
  induction n with
  | zero => intro l hl; cases l with
   | nil => simp at hl
   | cons a l => cases l <;> rfl
  | succ n ih => intro l hl; cases l with
   | nil => simp at hl
   | cons a l => have := ih l (by simpa using hl); simp [Zbs, this]
 rw [key _ _ (by simp; omega), Zqb kd i v h0]; congr 1; apply List.ext_getElem?; intro k; rw [List.getElem?_mapIdx, List.getElem?_set]; by_cases hk : i.toNat = k
 ·subst hk; have h2 : i.toNat < ns.length := (by omega); have h3 : i = ((0 + i.toNat : Nat) : Int) := (by omega); rw [if_pos rfl, if_pos (by simpa using h2), List.getElem?_eq_getElem h2, Option.map_some, if_pos h3]
 ·have hne : ¬ i = ((0 + k : Nat) : Int) := (by omega); simp only [hk, if_false, hne, List.getElem?_map]

theorem Zj4 {ns : List Int} {n : Int} (h0 : 0 ≤ n) (h1 : n < ns.length) : ns[n.toNat]? = some (aget ns n) := by
 have : n.toNat < ns.length := (by omega); simp [aget, this]

theorem Zot (F : FitsAt X h ρ st a w) (o : Oper) (K : St → Prop) (hx : Ztz P o st K) :
  ∃ v, (∀ w', SameB (fblk P a o) w w' → (execOp a.eval o).run P w' = .ok (.value v) w') ∧ Goes X K (a.put o.dst v) w := by
 have hsv := F.val; unfold Ztz at hx
 split at hx
 ·rename_i t x i heq
  split at hx
  ·rename_i e sz rows tok kd n hu hxs his; have h1 := hsv x; rw [hxs] at h1; have h2 := hsv i; rw [his] at h2
   split at hx
   ·rename_i z hz
    cases hb : (Nat.beq z sz && Nat.blt 0 z) with
    | false => simp [hb] at hx
    | true =>
     simp only [hb, cond_true] at hx; simp only [Bool.and_eq_true] at hb; have hzs : z = sz := Nat.eq_of_beq_eq_true hb.1; subst hzs; obtain ⟨⟨hn0, hn1⟩, hsh⟩ := hx; obtain ⟨cs, _, hcs, hk⟩ := Zfi _ _ _ hsh; obtain ⟨hlt, hrow⟩ := Zj2 hn0 hn1 hcs; simp only [rlen] at hn1; have hp := h1.slice_pure; generalize hv : a.eval x = v at hp
     cases hp with
     | empty => simp at hlt
     | slice b off cap _ _ _ vs hpos hz' hh hr _ _ _ hle =>
      refine ⟨.pointer (some ⟨b, off + n.toNat * z, none⟩), fun w' _ => ?_, Goes.put F o.dst ?_ hk⟩
      ·have hcond : 0 ≤ n ∧ n < (rows.length : Int) := ⟨hn0, by simpa using hn1⟩
       simp [execOp, heq, hv, h2.val_inv, Instr.indexAt, asIntOf, run_underlying hu, run_sizeOf' w' hz, hcond, Zb0]
      ·have := PRep.ref (h := h) b (off + n.toNat * z) 0 cs (fun j => vs n.toNat j) (fun j c e => hh _ cs j c hrow e) (fun j c e => hr _ cs j c hrow e); exact .pure _ _ this
   ·exact hx.elim
  ·rename_i e id kd n hu hxs his; have h1 := hsv x; rw [hxs] at h1; have h2 := hsv i; rw [his] at h2
   split at hx
   ·rename_i z sz rows hz ho
    cases hb : (Nat.beq z sz && Nat.blt 0 z) with
    | false => simp [hb] at hx
    | true =>
     simp only [hb, cond_true] at hx; simp only [Bool.and_eq_true] at hb; have hzs : z = sz := Nat.eq_of_beq_eq_true hb.1; subst hzs; obtain ⟨⟨hn0, hn1⟩, hk⟩ := hx; simp only [rlen] at hn1
     rcases F.obj id _ ho with ⟨hn, rfl⟩ | ⟨hn, ok⟩
     ·simp at hn1; omega
     ·rcases h1.osl_inv with ⟨hn', _⟩ | ⟨_, hv⟩
      ·rw [hn] at hn'; cases hn'
      ·have hr := Rep.eptr (h := h) (ρ := ρ) id e n 0 hn; refine ⟨_, fun w' _ => ?_, Goes.put F o.dst hr hk⟩
       have hcond : 0 ≤ n ∧ n < ((ρ id).len : Int) := ⟨hn0, by rw [ok.hlen]; simpa using hn1⟩
       simp [execOp, heq, hv, h2.val_inv, Instr.indexAt, asIntOf, run_underlying hu, run_sizeOf' w' hz, hcond, Zb0, ok.hsz]
   ·exact hx.elim
  ·rename_i m e id off kd n hu hxs his; have h1 := hsv x; rw [hxs] at h1; have h2 := hsv i; rw [his] at h2
   split at hx
   ·rename_i kd' m' ns hz ho
    cases hb : (Nat.beq m m' && Nat.beq off 0) with
    | false => simp only [hb, cond_false] at hx
    | true => simp only [hb, cond_true] at hx; simp only [Bool.and_eq_true] at hb; have hoff : off = 0 := Nat.eq_of_beq_eq_true hb.2; subst hoff; obtain ⟨⟨hn0, hn1⟩, hk⟩ := hx; obtain ⟨j, rfl⟩ := Int.eq_ofNat_of_zero_le hn0; have hj : j < m := (by simpa using hn1); refine ⟨.pointer (some ⟨(ρ id).blk, j, none⟩), fun w' _ => ?_, Goes.put F o.dst (.aptr id (j : Int)) hk⟩; simp [execOp, heq, h1.ptr_inv, h2.val_inv, Instr.indexAt, asIntOf, run_underlying hu, run_sizeOf' w' hz, Instr.sureAddr, hj, Zb0]
   ·rename_i z hz _
    cases hb : (jmode st && Nat.beq z 1 && Nat.beq off 0) with
    | true => simp only [hb, cond_true] at hx; simp only [Bool.and_eq_true] at hb; have hoff : off = 0 := Nat.eq_of_beq_eq_true hb.2; have hz1 : z = 1 := Nat.eq_of_beq_eq_true hb.1.2; subst hoff hz1; obtain ⟨⟨hn0, hn1⟩, hk⟩ := hx; obtain ⟨j, rfl⟩ := Int.eq_ofNat_of_zero_le hn0; have hj : j < m := (by simpa using hn1); refine ⟨.pointer (some ⟨(ρ id).blk, j, none⟩), fun w' _ => ?_, Goes.put F o.dst (.aptr id (j : Int)) hk⟩; simp [execOp, heq, h1.ptr_inv, h2.val_inv, Instr.indexAt, asIntOf, run_underlying hu, run_sizeOf' w' hz, Instr.sureAddr, hj, Zb0]
    | false => simp only [hb, cond_false] at hx; obtain ⟨j, hj, hnj, hk⟩ := Zhe hx (Zhf F his); subst hnj; refine ⟨.pointer (some ⟨(ρ id).blk, off + j * z, none⟩), fun w' _ => ?_, Goes.put F o.dst (.ptr id _) hk⟩; simp [execOp, heq, h1.ptr_inv, h2.val_inv, Instr.indexAt, asIntOf, run_underlying hu, run_sizeOf' w' hz, Instr.sureAddr, hj, Zb0]
   ·exact hx.elim
  ·rename_i m e id e' i' off kd n hu hxs his; have h1 := hsv x; rw [hxs] at h1; have h2 := hsv i; rw [his] at h2
   split at hx
   ·rename_i z hz; obtain ⟨j, hj, hnj, hk⟩ := Zhe hx (Zhf F his); subst hnj; obtain ⟨hn, hv⟩ := h1.eptr_inv; refine ⟨_, fun w' _ => ?_, Goes.put F o.dst (Rep.eptr (h := h) (ρ := ρ) id e' i' (off + j * z) hn) hk⟩; simp [execOp, heq, hv, h2.val_inv, Instr.indexAt, asIntOf, run_underlying hu, run_sizeOf' w' hz, Instr.sureAddr, hj, Zb0, Nat.add_assoc]
   ·exact hx.elim
  ·rename_i m e off cs kd n hu hxs his; have h1 := hsv x; rw [hxs] at h1; have h2 := hsv i; rw [his] at h2
   split at hx
   ·rename_i z hz; obtain ⟨j, hj, hnj, hk⟩ := Zhe hx (Zhf F his); subst hnj; generalize hv : a.eval x = v at h1
    cases h1 with
    | pure _ _ hp =>
     cases hp with
     | ref b base _ _ vs hh hr => refine ⟨.pointer (some ⟨b, base + (off + j * z), none⟩), fun w' _ => ?_, Goes.put F o.dst (.pure _ _ (.ref b base _ cs vs hh hr)) hk⟩; simp [execOp, heq, hv, h2.val_inv, Instr.indexAt, asIntOf, run_underlying hu, run_sizeOf' w' hz, Instr.sureAddr, hj, Zb0, Nat.add_assoc]
   ·exact hx.elim
  ·exact hx.elim
 ·rename_i t x heq
  split at hx
  ·rename_i id e i off hxs; have h1 := hsv x; rw [hxs] at h1
   split at hx
   ·rename_i sz rows z ho hz
    cases hb : Nat.beq z sz with
    | false => simp [hb] at hx
    | true =>
     simp only [hb, cond_true] at hx; have hzs : z = sz := Nat.eq_of_beq_eq_true hb; subst hzs; obtain ⟨⟨hn0, hn1⟩, hsh⟩ := hx; obtain ⟨cs, _, hcs, hk⟩ := Zfi _ _ _ hsh; obtain ⟨hlt, hrow⟩ := Zj2 hn0 hn1 hcs
     split at hk
     ·rename_i s hs; obtain ⟨hn, hv⟩ := h1.eptr_inv
      rcases F.obj id _ ho with ⟨hn', _⟩ | ⟨_, ok⟩
      ·rw [hn] at hn'; cases hn'
      ·obtain ⟨vs, g1, g2, g3⟩ := Zw8 (ρ := ρ) ok hrow; obtain ⟨u, hu, r⟩ := Zdf (P := P) g1 g2 g3 hs; refine ⟨u, fun w' hw => ?_, Goes.put F o.dst r hk⟩; have hu := hu w' (hw _ (by simp [fblk, Zb3, heq, hv])); simp [execOp, heq, hv, Instr.loadAt, Instr.sureAddr, ok.hsz, hu]
     ·exact hk.elim
   ·exact hx.elim
  ·rename_i id off hxs; have h1 := hsv x; rw [hxs] at h1
   split at hx
   ·rename_i kd m ns kd' m' ho hbig
    cases hb : (Nat.beq m m' && Nat.beq off 0 && decide (kd = kd')) with
    | false => simp only [hb, cond_false] at hx
    | true => simp only [hb, cond_true] at hx; simp only [Bool.and_eq_true, decide_eq_true_eq] at hb; obtain ⟨⟨b1, b2⟩, rfl⟩ := hb; have hm' : m = m' := Nat.eq_of_beq_eq_true b1; have hoff : off = 0 := Nat.eq_of_beq_eq_true b2; subst hm' hoff; obtain ⟨hlen, hcells⟩ := Zhh F ho; obtain ⟨vs, hvs, hl⟩ := Zqa (P := P) (w := w) hbig hlen hcells; refine ⟨.agg vs, fun w' hw => ?_, Goes.put F o.dst (.pure _ _ (.arr _ kd m ns hlen hvs)) hx⟩; have hl := hl w' (hw _ (by simp [fblk, Zb3, heq, h1.ptr_inv])); simp [execOp, heq, h1.ptr_inv, Instr.loadAt, Instr.sureAddr, hl]
   ·exact hx.elim
  ·rename_i id n hxs; have h1 := hsv x; rw [hxs] at h1
   split at hx
   ·rename_i kd m ns kd' ho hu hz; by_cases hk : kd = kd'
    ·subst hk; simp only [decide_true, cond_true] at hx; obtain ⟨⟨hn0, hn1⟩, hk⟩ := hx; obtain ⟨hlen, hcells⟩ := Zhh F ho; have hn1 : n < ns.length := by rw [hlen]; simpa using hn1
     have hag : Zbb P t = false := (by simp [Zbb, hu]); have hp : partN P t n.toNat (ns.map fun x => SV.val (.int kd x)) = some (.val (.int kd (aget ns n))) := by have h2 := Zj4 hn0 hn1; have h3 : n.toNat + 1 ≤ ns.length := (by omega); have h4 : Nat.ble (n.toNat + 1) ns.length = true := Nat.ble_eq_true_of_le h3; simp [partN, hu, hz, hag, Zbi, Zco, h2, h4]
     obtain ⟨u, hu', r⟩ := Zdf (P := P) (h := h) (ρ := ρ) (cs := ns.map fun x => SV.val (.int kd x)) hcells (by simp) (fun j v c hv hc => by
      simp at hv hc; obtain ⟨x1, e1, rfl⟩ := hv; obtain ⟨x2, e2, rfl⟩ := hc; rw [e1] at e2; cases e2
      exact .pure _ _ (.val _)) hp
     refine ⟨u, fun w' hw => ?_, Goes.put F o.dst r hk⟩; have hu' := hu' w' (hw _ (by simp [fblk, Zb3, heq, h1.aptr_inv])); rw [Nat.zero_add] at hu'; simp [execOp, heq, h1.aptr_inv, Instr.loadAt, Instr.sureAddr, hu']
    ·simp [hk] at hx
   ·rename_i cs kd ho hu hz
    split at hx
    ·rename_i ns hns; obtain ⟨⟨hn0, hn1⟩, hk⟩ := hx; have hcs := Zj3 hns; subst hcs; have hn1 : n < ns.length := by rw [Zbi] at hn1; simpa using hn1
     have hag : Zbb P t = false := (by simp [Zbb, hu]); have hp : partN P t n.toNat (ns.map fun x => SV.val (.int kd x)) = some (.val (.int kd (aget ns n))) := (by have h2 := Zj4 hn0 hn1; have h3 : n.toNat + 1 ≤ ns.length := (by omega); have h4 : Nat.ble (n.toNat + 1) ns.length = true := Nat.ble_eq_true_of_le h3; simp [partN, hu, hz, hag, Zbi, Zco, h2, h4]); obtain ⟨hcur0, ⟨cur, ty, hcur, hcsz, hcv⟩, _⟩ := F.obj id _ ho
     have hca : Zh2 w (ρ id).blk 0 cur.toList := fun j v hj => by
      simp [World.cell?, hcur]
      simpa using hj
     obtain ⟨u, hu', r⟩ := Zdf (P := P) (h := h) (ρ := ρ) (cs := ns.map fun x => SV.val (.int kd x)) hca (by simpa using hcsz) (fun j v c hv hc => (hcv j v c (by simpa using hv) hc).1) hp; refine ⟨u, fun w' hw => ?_, Goes.put F o.dst r hk⟩; have hu' := hu' w' (hw _ (by simp [fblk, Zb3, heq, h1.aptr_inv])); rw [Nat.zero_add] at hu'; simp [execOp, heq, h1.aptr_inv, Instr.loadAt, Instr.sureAddr, hu']
    ·exact hx.elim
   ·exact hx.elim
  ·exact hx.elim
 ·rename_i t x i heq
  split at hx
  ·rename_i s kd n hu hxs his; have h1 := hsv x; rw [hxs] at h1; have h2 := hsv i; rw [his] at h2; obtain ⟨⟨hn0, hn1⟩, hk⟩ := hx; simp only [slen] at hn1; have hlt : n.toNat < s.size := by simp at hn1; omega
   refine ⟨.int .u8 (sbyte s n), fun w' _ => ?_, Goes.put F o.dst (.pure _ _ (.val _)) hk⟩; simp [execOp, heq, h1.val_inv, h2.val_inv, Instr.index, asIntOf, run_underlying hu, hn0, hlt, sbyte]; rfl
  ·rename_i m0 e0 kd m' ns kd' n hu hxs his; have h1 := hsv x; rw [hxs] at h1; have h2 := hsv i; rw [his] at h2
   split at hx
   ·rename_i kd2 m hbig
    cases hb : (Nat.beq m m' && decide (kd = kd2)) with
    | false => simp only [hb, cond_false] at hx
    | true =>
     simp only [hb, cond_true] at hx; simp only [Bool.and_eq_true, decide_eq_true_eq] at hb; obtain ⟨b1, rfl⟩ := hb; have hmm : m = m' := Nat.eq_of_beq_eq_true b1; subst hmm; obtain ⟨e, q1, q2, q3, q4⟩ := Zp9 hbig; obtain ⟨⟨hn0, hn1⟩, hk⟩ := hx; obtain ⟨vs, hv, hlen, hvs⟩ := h1.arr_inv; obtain ⟨j, rfl⟩ := Int.eq_ofNat_of_zero_le hn0; have hj : j < m := (by simpa using hn1); have hget := Zj4 (ns := ns) (n := (j : Int)) hn0 (by rw [hlen]; exact hn1); have hsz : vs.size = ns.length := by have := congrArg List.length hvs; simpa using this
     have hag : Zbb P e = false := (by simp [Zbb, q2]); have hp : partN P e (j * 1) (ns.map fun x => SV.val (.int kd x)) = some (.val (.int kd (aget ns (j : Int)))) := by have h4 : Nat.ble (j + 1) ns.length = true := Nat.ble_eq_true_of_le (by omega); have h5 : ns[j]? = some (aget ns (j : Int)) := (by simpa using hget); simp [partN, q2, q3, hag, Zbi, Zco, h4, h5]
     obtain ⟨u, hu', r⟩ := Zcs (P := P) (h := h) (ρ := ρ) (vs := vs) (cs := ns.map fun x => SV.val (.int kd x)) (by simpa using hsz) (fun j v c hv hc => by
      rw [← Array.getElem?_toList, hvs] at hv; simp at hv hc; obtain ⟨x1, e1, rfl⟩ := hv; obtain ⟨x2, e2, rfl⟩ := hc; rw [e1] at e2; cases e2
      exact .pure _ _ (.val _)) hp
     refine ⟨u, fun w' _ => ?_, Goes.put F o.dst r hk⟩; have hu' := hu' w'; rw [Nat.mul_one] at hu'; simp [execOp, heq, hv, h2.val_inv, Instr.index, asIntOf, run_underlying q1, run_sizeOf' w' q3, hj, hu']
   ·exact hx.elim
  ·rename_i m e cs kd n hu hxs his; have h1 := hsv x; rw [hxs] at h1; have h2 := hsv i; rw [his] at h2
   split at hx
   ·rename_i z hz; obtain ⟨j, hj, hnj, hk⟩ := Zhe hx (Zhf F his); subst hnj
    split at hk
    ·rename_i s hs; obtain ⟨vs, hv, hl, hc⟩ := h1.agg_inv'; obtain ⟨u, hu', r⟩ := Zcs (P := P) hl hc hs; refine ⟨u, fun w' _ => ?_, Goes.put F o.dst r hk⟩; simp [execOp, heq, hv, h2.val_inv, Instr.index, asIntOf, run_underlying hu, run_sizeOf' w' hz, hj, hu' w']
    ·exact hk.elim
   ·exact hx.elim
  ·exact hx.elim
 ·rename_i op t x y t' heq
  split at hx
  ·rename_i kd m kd' n hxs hys; have h1 := hsv x; rw [hxs] at h1; have h2 := hsv y; rw [hys] at h2
   split at hx
   ·by_cases hk : kd = kd'
    ·subst hk; simp at hx; exact ⟨.int kd (wquo kd m n), fun w' _ => by simp [execOp, heq, h1.val_inv, h2.val_inv, Zdm, binOp, Op.intDiv, hx.1, wquo], Goes.put F o.dst (.pure _ _ (.val _)) hx.2⟩
    ·simp [hk] at hx
   ·by_cases hk : kd = kd'
    ·subst hk; simp at hx; exact ⟨.int kd (wrem m n), fun w' _ => by simp [execOp, heq, h1.val_inv, h2.val_inv, Zdm, binOp, Op.intDiv, hx.1, wrem], Goes.put F o.dst (.pure _ _ (.val _)) hx.2⟩
    ·simp [hk] at hx
   ·have hn : ¬ n < 0 := (by omega); exact ⟨.int kd (wshl kd m n), fun w' _ => by simp [execOp, heq, h1.val_inv, h2.val_inv, Zdm, binOp, Op.shift, hn, wshl], Goes.put F o.dst (.pure _ _ (.val _)) hx.2⟩
   ·have hn : ¬ n < 0 := (by omega); exact ⟨.int kd (wshr kd m n), fun w' _ => by simp [execOp, heq, h1.val_inv, h2.val_inv, Zdm, binOp, Op.shift, hn, wshr], Goes.put F o.dst (.pure _ _ (.val _)) hx.2⟩
   ·exact hx.elim
  ·rename_i m n hxs hys; have h1 := hsv x; rw [hxs] at h1; have h2 := hsv y; rw [hys] at h2
   split at hx
   ·refine ⟨.string (scat m n), fun w' _ => ?_, Goes.put F o.dst (.pure _ _ (.val _)) hx.2⟩
    have hle : (m.size : Int) + (n.size : Int) ≤ 9223372036854775807 := by
     have := hx.1
     simpa only [slen, lsum, Int.ofNat_eq_natCast] using this
    simp [execOp, heq, h1.val_inv, h2.val_inv, Zj8, binOp, Op.stringOp, scat]; exact hle
   ·exact hx.elim
  ·rename_i k m k' n hxs hys; have h1 := hsv x; rw [hxs] at h1; have h2 := hsv y; rw [hys] at h2; obtain ⟨v, hr, hk⟩ := Zhg hx; refine ⟨v, fun w' _ => ?_, Goes.put F o.dst (.pure _ _ (.val _)) hk⟩; have := hr w'; simp [execOp, heq, h1.val_inv, h2.val_inv, Zox, this]
  ·rename_i k m m2 k' n n2 hxs hys; have h1 := hsv x; rw [hxs] at h1; have h2 := hsv y; rw [hys] at h2; obtain ⟨v, hr, hk⟩ := Zhg hx; refine ⟨v, fun w' _ => ?_, Goes.put F o.dst (.pure _ _ (.val _)) hk⟩; have := hr w'; simp [execOp, heq, h1.val_inv, h2.val_inv, Zoy, this]
  ·cases hnil : Ztw y with
   | false =>
    simp only [hnil, cond_false] at hx
    cases hnI : Ztx y with
    | false => simp [hnI] at hx
    | true =>
     simp only [hnI, cond_true] at hx
     have hy : y = .const .nilIface := by
      unfold Ztx at hnI
      split at hnI
      ·rfl
      ·cases hnI
     subst hy; have hyv : a.eval (.const .nilIface) = .nilIface := rfl
     have heqv : ∀ (u : Value) (b : Bool) (ms), P.underlying t = some (.interface ms) → (u = .nilIface ∧ b = true ∨ ∃ tx vx, u = .iface tx vx ∧ b = false) → ∀ w' : World, (Op.equal t u .nilIface).run P w' = .ok b w' := by
      intro u b ms hu hb w'
      have he : ∀ d, (Op.equalIn (d + 1) t u .nilIface).run P w' = .ok b w' := by
       intro d
       rcases hb with ⟨rfl, rfl⟩ | ⟨tx, vx, rfl, rfl⟩ <;> simp [Op.equalIn, run_underlying hu]
      exact he 9999
     split at hx
     ·rename_i ms hu; have hc := (hsv x).ifc_inv hx.1; refine ⟨.bool (Zlm (st.val x)), fun w' _ => ?_, Goes.put F o.dst (.pure _ _ (.val _)) hx.2⟩; have := heqv _ _ ms hu hc w'
      rcases hc with ⟨e1, e2⟩ | ⟨tx, vx, e1, e2⟩ <;> rw [e1] at this <;> simp [execOp, heq, e1, hyv, eqGuard, binOp, this]
     ·rename_i ms hu; have hc := (hsv x).ifc_inv hx.1; refine ⟨.bool !(Zlm (st.val x)), fun w' _ => ?_, Goes.put F o.dst (.pure _ _ (.val _)) hx.2⟩; have := heqv _ _ ms hu hc w'
      rcases hc with ⟨e1, e2⟩ | ⟨tx, vx, e1, e2⟩ <;> rw [e1] at this <;> simp [execOp, heq, e1, hyv, eqGuard, binOp, this]
     ·exact hx.elim
   | true =>
    simp only [hnil, cond_true] at hx
    have hy : y = .const (.slice none 0 0) := by
     unfold Ztw at hnil
     split at hnil
     ·rfl
     ·cases hnil
    subst hy
    have hnilp : ∀ {sz : Nat} {rows : List (List SV)}, Zio st.objs (st.val x) = some (sz, rows) → ∃ p cap, a.eval x = .slice p rows.length cap ∧ (p.isNone = true → rlen rows = 0) := by
     intro sz rows hro; obtain ⟨p, cap, hv, hp⟩ := Zd3 F (hsv x) hro; refine ⟨p, cap, hv, fun hnn => ?_⟩; by_cases h0 : 0 < rows.length
     ·obtain ⟨b, off, rfl, _⟩ := hp h0; simp at hnn
     ·simp [rlen]; simpa using h0
    have heqv : ∀ (p : Option Addr) (n c : Nat) (e : TypeId), P.underlying t = some (.slice e) → ∀ w' : World, (Op.equal t (.slice p n c) (.slice none 0 0)).run P w' = .ok p.isNone w' := by
     intro p n c e hu w'
     have he : ∀ d, (Op.equalIn (d + 1) t (.slice p n c) (.slice none 0 0)).run P w' = .ok p.isNone w' := by
      intro d
      cases p <;> simp [Op.equalIn, run_underlying hu]
     exact he 9999
    have hyv : a.eval (.const (.slice none 0 0)) = .slice none 0 0 := rfl
    split at hx
    ·rename_i e z rows hu hro; obtain ⟨p, cap, hv, hp⟩ := hnilp hro; refine ⟨.bool p.isNone, fun w' _ => ?_, Goes.put F o.dst (.pure _ _ (.val _)) (hx p.isNone hp)⟩; have := heqv p rows.length cap e hu w'; simp [execOp, heq, hv, hyv, eqGuard, binOp, this]
    ·rename_i e z rows hu hro; obtain ⟨p, cap, hv, hp⟩ := hnilp hro; refine ⟨.bool !p.isNone, fun w' _ => ?_, Goes.put F o.dst (.pure _ _ (.val _)) (hx (!p.isNone) (fun e => hp (by simpa using e)))⟩; have := heqv p rows.length cap e hu w'; simp [execOp, heq, hv, hyv, eqGuard, binOp, this]
    ·exact hx.elim
 ·rename_i t x lo hi mx heq; obtain ⟨h', hle, F'⟩ := F.pureOps [x]; have hsv' := F'.val
  split at hx
  ·rename_i s hu hxs; have h1 := hsv' x; rw [hxs] at h1
   split at hx
   ·rename_i l hh hl hhi; obtain ⟨⟨hl0, hlh, hhs⟩, hk⟩ := hx; simp only [slen] at hhs hhi; refine ⟨.string (ssub s l hh), fun w' _ => ?_, Goes.put F' o.dst (.pure _ _ (.val _)) hk⟩; have hb := Zhz (P := P) (w' := w') (hsv := hsv') (gv := fun _ => (pureOps [x] st).val) false s.size s.size (lo := lo) (hi := hi) (l := l) (h' := hh) hl hhi hl0 hlh (by simpa using hhs) (by simpa using hhs); simp [execOp, heq, h1.val_inv, Instr.sliceAt, Instr.slice, run_underlying hu, hb, ssub]
   ·exact hx.elim
  ·rename_i e sz rows tok hu hxs; have h1 := hsv' x; rw [hxs] at h1; have hp := h1.slice_pure; obtain ⟨p, cap, hv⟩ := h1.slice_inv; rw [hv] at hp
   have hcap : rows.length ≤ cap := by
    generalize hvv : Value.slice p rows.length cap = v at hp
    cases hp with
    | empty => simp
    | slice _ _ _ _ _ _ _ _ _ _ _ _ _ _ hle => cases hvv; exact hle
   split at hx
   ·rename_i z l hh hz hl hhi
    cases hb : (Nat.beq z sz || Nat.beq sz 0) with
    | false => simp [hb] at hx
    | true =>
     simp only [hb, cond_true] at hx; simp only [Bool.or_eq_true] at hb; have hzz : z = sz ∨ sz = 0 := hb.elim (fun e => .inl (Nat.eq_of_beq_eq_true e)) (fun e => .inr (Nat.eq_of_beq_eq_true e)); obtain ⟨⟨hl0, hlh, hhs⟩, hk⟩ := hx; simp only [rlen] at hhs hhi; have hb' : hh.toNat ≤ rows.length := by simp at hhs; omega
     refine ⟨_, fun w' _ => ?_, Goes.put F' o.dst (.pure _ _ (PRep.sub (z := z) hp (l := l.toNat) (hh := hh.toNat) (m := cap) (by omega) hb' (by omega) (Nat.le_refl _) hzz 0 (by omega) (by omega))) (by simpa [rsub] using hk)⟩; have hb := Zhz (P := P) (w' := w') (hsv := hsv') (gv := fun _ => (pureOps [x] st).val) true rows.length cap (lo := lo) (hi := hi) (l := l) (h' := hh) hl hhi hl0 hlh (by simpa using hhs) (by simp at hhs ⊢; omega); simp [execOp, heq, hv, Instr.sliceAt, Instr.slice, run_underlying hu, hb, run_sizeOf' w' hz]
   ·rename_i z l hh m hz hl hhi
    split at hx
    ·rename_i hio kd mm hms
     cases hb : (Nat.beq z sz || Nat.beq sz 0) with
     | false => simp [hb] at hx
     | true =>
      simp only [hb, cond_true] at hx; simp only [Bool.or_eq_true] at hb; have hzz : z = sz ∨ sz = 0 := hb.elim (fun e => .inl (Nat.eq_of_beq_eq_true e)) (fun e => .inr (Nat.eq_of_beq_eq_true e)); obtain ⟨⟨hl0, hlh, hmm, hhs⟩, hk⟩ := hx; subst hmm; simp only [rlen] at hhs hhi; have hb' : hh.toNat ≤ rows.length := by simp at hhs; omega
      refine ⟨_, fun w' _ => ?_, Goes.put F' o.dst (.pure _ _ (PRep.sub (z := z) hp (l := l.toNat) (hh := hh.toNat) (m := hh.toNat) (by omega) hb' (by omega) (by omega) hzz 1 (by omega) (fun _ => rfl))) (by simpa [rsub] using hk)⟩; have hm := hsv' m; rw [hms] at hm; have hb := Zor (P := P) (w' := w') (hsv := hsv') (gv := fun _ => (pureOps [x] st).val) rows.length cap (lo := lo) (hi := hio) (m := m) (l := l) (h' := hh) hl hhi hm.val_inv hl0 hlh (by simp at hhs ⊢; omega); simp [execOp, heq, hv, Instr.sliceAt, Instr.slice, run_underlying hu, hb, run_sizeOf' w' hz]
    ·exact hx.elim
   ·exact hx.elim
  ·rename_i m e id off hu hxs; have h1 := hsv' x; rw [hxs] at h1
   split at hx
   ·rename_i kd m' ns ho
    split at hx
    ·rename_i l hh hz hl hhi
     cases hb : (Nat.beq m m' && Nat.beq off 0) with
     | false => simp only [hb, cond_false] at hx
     | true =>
      simp only [hb, cond_true] at hx; simp only [Bool.and_eq_true] at hb; have hoff : off = 0 := Nat.eq_of_beq_eq_true hb.2; subst hoff; obtain ⟨⟨hl0, hlh, hhm, hlm⟩, hk⟩ := hx; refine ⟨.slice (some ⟨(ρ id).blk, l.toNat, none⟩) (hh - l).toNat (m - l.toNat), fun w' _ => ?_, Goes.put F' o.dst (.asl id l hh _) hk⟩; have hb := Zhz (P := P) (w' := w') (hsv := hsv') (gv := fun _ => (pureOps [x] st).val) false m m (lo := lo) (hi := hi) (l := l) (h' := hh) hl hhi hl0 hlh (by simpa using hhm) (by simpa using hhm); simp [execOp, heq, h1.ptr_inv, Instr.sliceAt, run_underlying hu, Instr.sureAddr, hb, run_sizeOf' w' hz, Zb0]; have hne : ¬ m = l.toNat := by simp at hlm; omega
      simp [hne]; omega
    ·exact hx.elim
   split at hx
   ·rename_i hz; refine ⟨.slice (some ⟨(ρ id).blk, off, none⟩) m m, fun w' _ => ?_, Goes.put F o.dst (.bsl id off m) hx⟩; have hadd : (⟨(ρ id).blk, off, none⟩ : Addr).add (0 * 1) = ⟨(ρ id).blk, off, none⟩ := by rw [Zb0]; rfl
    simp [execOp, heq, h1.ptr_inv, Instr.sliceAt, run_underlying hu, Instr.sureAddr, Instr.sliceBounds, run_sizeOf' w' hz, Zb0]
   ·exact hx.elim
  ·exact hx.elim
 ·rename_i f first captured heq
  cases hfst : Nat.beq first.size 0 with
  | false => simp [hfst] at hx
  | true =>
   simp only [hfst, cond_true] at hx; have hf0 : first = #[] := Array.eq_empty_of_size_eq_zero (Nat.eq_of_beq_eq_true hfst)
   subst hf0
   split at hx
   ·exact hx.elim
   ·rename_i st1 hst1
    split at hx
    ·rename_i cs hcs; obtain ⟨h1, hle1, F1⟩ := F.frzBoxes _ hst1; obtain ⟨h2, hle2, F2⟩ := F1.pureOps captured.toList; obtain ⟨hl, hg⟩ := Zdn _ _ hcs; refine ⟨.func (.func f) #[] (captured.map a.eval), fun w' _ => by simp [execOp, heq, Instr.makeFunc], Goes.put F2 o.dst (.pure _ _ (.clo f _ cs (by simpa using hl.symm) fun i v c hv hc => ?_)) hx⟩; obtain ⟨c0, g1, g2⟩ := hg i c hc; simp at g1 hv; obtain ⟨x, hx1, rfl⟩ := g1; obtain ⟨x', hx2, rfl⟩ := hv; rw [hx1] at hx2; cases hx2; exact Zb2 (F2.val x) g2
    ·exact hx.elim
 ·rename_i src dst x heq
  split at hx
  ·rename_i e id l hh hs hd hxs; have h1 := hsv x; rw [hxs] at h1
   split at hx
   ·rename_i kd m ns he ho; obtain ⟨⟨hl0, hlh, hhm⟩, hb, hk⟩ := hx; obtain ⟨hlen, hcells⟩ := Zhh F ho; obtain ⟨cap, hv⟩ := h1.asl_inv; have hrl : (arows kd (asub ns l hh)).length = (hh - l).toNat := by simp [arows, asub, hlen]; simp at hhm; omega
    refine ⟨.string (bstr (arows kd (asub ns l hh))), fun w' hw => ?_, Goes.put F o.dst (.pure _ _ (.val _)) hk⟩
    have := Znq (P := P) (w := w) (h := h) (p := some ⟨(ρ id).blk, l.toNat, none⟩) (len := (hh - l).toNat) (cap := cap) hrl.symm hb (fun h0 => by
     refine ⟨_, _, rfl, fun i r c q1 q2 => ?_⟩; simp only [arows, asub, List.getElem?_map, List.getElem?_drop] at q1; rw [List.getElem?_take] at q1
     split at q1
     ·cases hx : ns[l.toNat + i]? with
      | none => simp [hx] at q1
      | some y => simp [hx] at q1; subst q1; simp at q2; subst q2; have := hcells (l.toNat + i) (.int kd y) (by simp [hx]); exact ⟨.int kd y, by simpa using this, .val _⟩
     ·simp at q1) w' (fun b off h0 e => hw b (by
      obtain ⟨k, hk⟩ : ∃ k, (hh - l).toNat = k + 1 := ⟨(hh - l).toNat - 1, by omega⟩
      rw [hk, e] at hv
      simp [fblk, Zb3, heq, hv, hs]))
    simp [execOp, heq, hv, run_convert_bytes_string w' src dst e _ _ cap hs he hd, this]
   ·exact hx.elim
  ·rename_i e hs hd hne
   split at hx
   ·rename_i sz rows he hro; obtain ⟨hb, hk⟩ := hx; obtain ⟨p, cap, hv, hp⟩ := Zd3 F (hsv x) hro; refine ⟨.string (bstr rows), fun w' hw => ?_, Goes.put F o.dst (.pure _ _ (.val _)) hk⟩
    have := Znq (P := P) (w := w) (h := h) (p := p) (len := rows.length) (cap := cap) rfl hb (fun h0 => by
     obtain ⟨b, off, rfl, hpos, hrow, hc⟩ := hp h0; have h1 : sz = 1 := (by obtain ⟨n, e1, _⟩ := hb (rows[0]) (List.getElem_mem h0); have := hrow 0 _ (List.getElem?_eq_getElem h0); rw [e1] at this; simpa using this.symm); subst h1; refine ⟨b, off, rfl, fun i r c q1 q2 => ?_⟩; obtain ⟨v, t1, t2, _⟩ := hc i r 0 c q1 q2
     exact ⟨v, by simpa using t1, t2⟩) w' (fun b off h0 e => hw b (by
      obtain ⟨k, hk⟩ : ∃ k, rows.length = k + 1 := ⟨rows.length - 1, by omega⟩
      rw [hk, e] at hv
      simp [fblk, Zb3, heq, hv, hs]))
    simp [execOp, heq, hv, run_convert_bytes_string w' src dst e p _ cap hs he hd, this]
   ·exact hx.elim
  ·rename_i k0 k1 k n hs hd hxs; have h1 := hsv x; rw [hxs] at h1; obtain ⟨v, hr, hk⟩ := Zhg hx; refine ⟨v, fun w' _ => ?_, Goes.put F o.dst (.pure _ _ (.val _)) hk⟩; have := hr w'; simp [execOp, heq, h1.val_inv, this]
  ·rename_i k0 k1 k n hs hd hxs; have h1 := hsv x; rw [hxs] at h1; obtain ⟨v, hr, hk⟩ := Zhg hx; refine ⟨v, fun w' _ => ?_, Goes.put F o.dst (.pure _ _ (.val _)) hk⟩; have := hr w'; simp [execOp, heq, h1.val_inv, this]
  ·exact hx.elim
 ·exact hx.elim

end
end Go.Px

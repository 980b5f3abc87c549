/- Calls by contract. -/
import Derived.Test.YtggfbmcdodbchaaPxF
namespace Go.Px
open Go.RowKit

section
variable {w0 : World} {h0 h : Hp} {ρ : Nat → Loc} {st : St} {a : Act} {w : World} {P : Program}

theorem pureCell_sound {v : Value} {s s' : SV} (r : Rep h ρ v s) (hp : pureCell s = some s') : PRep h v s' := by
  cases r with
  | pure _ _ hr =>
    cases hr with
    | val v => cases v <;> simp [pureCell] at hp <;> subst hp <;> exact .val _
    | agg => simp [pureCell] at hp
    | empty p cap sz tok ht h1 hn => simp [pureCell] at hp; subst hp; exact .empty p cap _ 0 (by omega) (by omega) hn
    | slice b off cap sz rows tok vs hpos hz hh hr ht h1 hle => simp [pureCell] at hp; subst hp; exact .slice b off cap sz rows 0 vs hpos hz hh hr (by omega) (by omega) hle
    | ref b base off cells vs hh hr => simp [pureCell] at hp; subst hp; exact .ref b base off cells vs hh hr
    | clo f vs cs hl hc => simp [pureCell] at hp; subst hp; exact .clo f vs cs hl hc
    | unk => simp [pureCell] at hp
  | agg => simp [pureCell] at hp
  | tup => simp [pureCell] at hp
  | tip0 id _ sz rows hn hr => simp [pureCell] at hp; subst hp; exact hr.tok0
  | tip id sz rows hn hpos hl hs hr => simp [pureCell] at hp; subst hp; exact hr
  | ptr => simp [pureCell] at hp
  | bsl => simp [pureCell] at hp

theorem pureL_sound : ∀ (cs cs' : List SV), pureL cs = some cs' → cs'.length = cs.length ∧
    ∀ (i : Nat) c', cs'[i]? = some c' → ∃ c, cs[i]? = some c ∧ pureCell c = some c'
  | [], cs', h => by simp [pureL] at h; subst h; simp
  | c :: cs, cs', h => by
    simp only [pureL] at h
    split at h
    · rename_i c1 cs1 h1 h2
      cases h
      obtain ⟨l, g⟩ := pureL_sound cs cs1 h2
      refine ⟨by simp [l], fun i c' hc => ?_⟩
      cases i with
      | zero => simp at hc; subst hc; exact ⟨c, by simp, h1⟩
      | succ i => simpa using g i c' (by simpa using hc)
    · cases h

theorem Rep.agg_inv {v : Value} {cs : List SV} (r : Rep h ρ v (.agg cs)) : ∃ vs : Array Value, v = .agg vs ∧ vs.size = cs.length ∧ ∀ (i : Nat) u c, vs[i]? = some u → cs[i]? = some c → Rep h ρ u c := by
  cases r with
  | pure _ _ hp => cases hp with
    | agg vs _ hl hc => exact ⟨vs, rfl, hl, fun i u c hu hc' => .pure _ _ (hc i u c hu hc')⟩
  | agg vs _ hl hc => exact ⟨vs, rfl, hl, hc⟩

theorem pureArg_sound {v : Value} {s s' : SV} (r : Rep h ρ v s) (hp : pureArg s = some s') : PRep h v s' := by
  unfold pureArg at hp
  split at hp
  · rename_i cs
    simp at hp
    obtain ⟨cs', hcs, rfl⟩ := hp
    obtain ⟨l, g⟩ := pureL_sound _ _ hcs
    obtain ⟨vs, rfl, hl, hc⟩ := r.agg_inv
    refine .agg vs cs' (by omega) fun i u c hu hc' => ?_
    obtain ⟨c0, h0, h1⟩ := g i c hc'
    exact pureCell_sound (hc i u c0 hu h0) h1
  · exact pureCell_sound r hp

theorem fixSz_sound {v : Value} {s : SV} (t : TypeId) (r : PRep h v s) : PRep h v (fixSz P t s) := by
  unfold fixSz
  split
  · rename_i e sz rows tok hu
    cases hb : Nat.beq sz 0 with
    | false => exact r
    | true =>
      have : sz = 0 := Nat.eq_of_beq_eq_true hb
      subst this
      cases r with
      | empty p cap _ _ ht h1 hn => exact .empty p cap _ _ ht h1 hn
      | slice _ _ _ _ _ _ _ hpos => exact absurd hpos (Nat.lt_irrefl 0)
  · exact r

theorem fixL'_get : ∀ (ts : List TypeId) (cs : List SV), (fixL' P ts cs).length = cs.length ∧ ∀ (i : Nat) c', (fixL' P ts cs)[i]? = some c' → ∃ c t, cs[i]? = some c ∧ (c' = c ∨ c' = fixSz P t c)
  | [], cs => by simp only [fixL']; exact ⟨trivial, fun i c' h => ⟨c', 0, h, .inl rfl⟩⟩
  | t :: ts, [] => by simp [fixL']
  | t :: ts, c :: cs => by
    obtain ⟨l, g⟩ := fixL'_get ts cs
    simp only [fixL']
    refine ⟨by simp [l], fun i c' h => ?_⟩
    cases i with
    | zero => simp at h; exact ⟨c, t, by simp, .inr h.symm⟩
    | succ i => simpa using g i c' (by simpa using h)

theorem normT_sound {v : Value} {s : SV} (t : TypeId) (r : PRep h v s) : PRep h v (normT P t s) := by
  unfold normT
  split
  · rename_i cs
    cases r with
    | agg vs _ hl hc =>
      obtain ⟨l, g⟩ := fixL'_get (P := P) (cellTypes P 8 t) cs
      refine .agg vs _ (by omega) fun i u c hu hc' => ?_
      obtain ⟨c0, t0, e, h1⟩ := g i c hc'
      have := hc i u c0 hu e
      rcases h1 with rfl | rfl
      · exact this
      · exact fixSz_sound t0 this
  · exact fixSz_sound t r

theorem pureArgs_sound : ∀ (ts : List TypeId) (ss as : List SV), pureArgs P ts ss = some as → as.length = ss.length ∧
    ∀ (i : Nat) s', as[i]? = some s' → ∃ s, ss[i]? = some s ∧ ∀ v, Rep h ρ v s → PRep h v s'
  | [], [], as, e => by simp [pureArgs] at e; subst e; simp
  | [], _ :: _, as, e => by simp [pureArgs] at e
  | _ :: _, [], as, e => by simp [pureArgs] at e
  | t :: ts, s :: ss, as, e => by
    simp only [pureArgs] at e
    split at e
    · rename_i c cs h1 h2
      cases e
      obtain ⟨l, g⟩ := pureArgs_sound ts ss cs h2
      refine ⟨by simp [l], fun i s' hs => ?_⟩
      cases i with
      | zero => simp at hs; subst hs; exact ⟨s, by simp, fun v r => normT_sound t (pureArg_sound r h1)⟩
      | succ i => simpa using g i s' (by simpa using hs)
    · cases e

theorem RetRep.owned {h' : Hp} {ρr ρ'' : Nat → Loc} {T : Bool} {i j : Nat} {v : Value} {s : SV} (r : RetRep h' ρr T i v s)
    (he : ∀ sz rows tok, s = .slice sz rows tok → T = true → ρ'' j = ρr i) : Rep h' ρ'' v (owned T j s) := by
  cases T with
  | false => cases s <;> exact .pure _ _ r
  | true =>
    cases s with
    | slice sz rows tok =>
      have e := he sz rows tok rfl rfl
      simp only [RetRep] at r
      simp only [Px.owned]
      generalize hk : i + 2 = k at r
      cases r with
      | pure _ _ hp => cases hp with
        | empty _ _ _ _ ht => omega
        | slice _ _ _ _ _ _ _ _ _ _ _ ht => omega
      | tip0 id _ _ _ hn hp =>
        have : id = i := by omega
        subst this
        exact .tip0 j v sz rows (by rw [e]; exact hn) hp
      | tip id _ _ hn hpos hl hs hp =>
        have : id = i := by omega
        subst this
        rw [← e] at hn hl hs hp ⊢
        exact .tip j sz rows hn hpos hl hs hp
    | _ => exact .pure _ _ r

/-- The results' spare room is named. -/
theorem bindTips_fits {h' : Hp} {w' : World} (T : Bool) (d N : Nat) (ρr : Nat → Loc) (all : List SV)
    (hob : ∀ (i : Nat) sz rows tok, all[i]? = some (.slice sz rows tok) → T = true → ObOK h' ρr w' i .tip ∧ ((ρr i).none = false → N ≤ (ρr i).blk))
    (hds : ∀ (i j : Nat) sz rows tok sz' rows' tok', all[i]? = some (.slice sz rows tok) → all[j]? = some (.slice sz' rows' tok') → T = true → i ≠ j → (ρr i).none = false → (ρr j).none = false → (ρr i).blk ≠ (ρr j).blk)
    (hN : w0.heap.size ≤ N) :
    ∀ (ss : List SV) (i : Nat) (st : St) (ρ : Nat → Loc), (∀ k, ss[k]? = all[i + k]?) → FitsAt w0 h0 h' ρ st a w' →
      (∀ id, live st.objs ρ id → (ρ id).blk < N ∨ ∃ j sz rows tok, j < i ∧ id = 16 * d + j ∧ ρ id = ρr j ∧ all[j]? = some (.slice sz rows tok) ∧ T = true) →
      ∃ ρ'', FitsAt w0 h0 h' ρ'' (bindTips T d i ss st) a w' ∧ (∀ id, (∀ j, i ≤ j → id ≠ 16 * d + j) → ρ'' id = ρ id) ∧
        ∀ (k : Nat) sz rows tok, ss[k]? = some (.slice sz rows tok) → T = true → ρ'' (16 * d + (i + k)) = ρr (i + k)
  | [], i, st, ρ, _, F, _ => ⟨ρ, F, fun _ _ => rfl, fun k sz rows tok hk => by simp at hk⟩
  | s :: ss, i, st, ρ, hall, F, hinv => by
    have hall' : ∀ k, ss[k]? = all[i + 1 + k]? := fun k => by
      have := hall (k + 1)
      simp at this
      rw [this]
      congr 1; omega
    have h0' : all[i]? = some s := by have := hall 0; simpa using this.symm
    by_cases hs : ∃ sz rows tok, s = .slice sz rows tok ∧ T = true
    · obtain ⟨sz, rows, tok, rfl, rfl⟩ := hs
      obtain ⟨ho, hb⟩ := hob i sz rows tok h0' rfl
      have F1 := F.bind (16 * d + i) .tip (ρr i) (by
          have : killOb (16 * d + i) Ob.tip = .tip := rfl
          rw [this]; simp only [ObOK, upd_same] at ho ⊢; exact ho) (fun hn => Nat.le_trans hN (hb hn)) (fun hn id hid hl => by
          rcases hinv id hl with h1 | ⟨j, sz', rows', tok', hj, rfl, he, hjs, _⟩
          · have := hb hn; omega
          · rw [he]; exact hds j i _ _ _ _ _ _ hjs h0' rfl (by omega) (by have := hl.2; rwa [he] at this) hn)
      obtain ⟨ρ'', F2, hk, hr⟩ := bindTips_fits true d N ρr all hob hds hN ss (i + 1) _ _ hall' F1 (fun id hl => by
        by_cases hid : id = 16 * d + i
        · subst hid; exact .inr ⟨i, sz, rows, tok, by omega, rfl, upd_same _ _ _, h0', rfl⟩
        · have hl' : live st.objs ρ id := by
            obtain ⟨⟨x, hx⟩, hn⟩ := hl
            rw [oget_bind, if_neg (Ne.symm hid)] at hx
            rw [upd_ne ρ _ hid] at hn
            cases hy : oget st.objs id with
            | none => simp [hy] at hx
            | some y => exact ⟨⟨y, hy⟩, hn⟩
          rw [upd_ne ρ _ hid]
          rcases hinv id hl' with h1 | ⟨j, sz', rows', tok', hj, e1, he, hjs, ht⟩
          · exact .inl h1
          · exact .inr ⟨j, sz', rows', tok', by omega, e1, he, hjs, ht⟩)
      refine ⟨ρ'', F2, fun id hid => ?_, fun k sz' rows' tok' hk' ht => ?_⟩
      · rw [hk id (fun j hj => hid j (by omega)), upd_ne]
        exact hid i (Nat.le_refl _)
      · cases k with
        | zero => rw [Nat.add_zero, hk _ (fun j hj => by omega), upd_same]
        | succ k =>
          have := hr k sz' rows' tok' (by simpa using hk') ht
          rwa [show i + (k + 1) = i + 1 + k by omega]
    · have hst : bindTips T d i (s :: ss) st = bindTips T d (i + 1) ss st := by
        cases s <;> first | rfl | skip
        cases T with
        | false => rfl
        | true => exact absurd ⟨_, _, _, rfl, rfl⟩ hs
      rw [hst]
      obtain ⟨ρ'', F2, hk, hr⟩ := bindTips_fits T d N ρr all hob hds hN ss (i + 1) st ρ hall' F (fun id hl => by
        rcases hinv id hl with h1 | ⟨j, sz', rows', tok', hj, e1, he, hjs, ht⟩
        · exact .inl h1
        · exact .inr ⟨j, sz', rows', tok', by omega, e1, he, hjs, ht⟩)
      refine ⟨ρ'', F2, fun id hid => hk id (fun j hj => hid j (by omega)), fun k sz' rows' tok' hk' ht => ?_⟩
      cases k with
      | zero => simp at hk'; exact absurd ⟨_, _, _, hk', ht⟩ hs
      | succ k =>
        have := hr k sz' rows' tok' (by simpa using hk') ht
        rwa [show i + (k + 1) = i + 1 + k by omega]

theorem ownedAll_get (T : Bool) (d : Nat) : ∀ (ss : List SV) (i k : Nat), (ownedAll T d i ss)[k]? = (ss[k]?).map (owned T (16 * d + (i + k)))
  | [], i, k => by simp [ownedAll]
  | s :: ss, i, 0 => by simp [ownedAll]
  | s :: ss, i, k + 1 => by
    simp only [ownedAll, List.getElem?_cons_succ]
    rw [ownedAll_get T d ss (i + 1) k]
    congr 2; omega

theorem ownedAll_length (T : Bool) (d : Nat) : ∀ (ss : List SV) (i : Nat), (ownedAll T d i ss).length = ss.length
  | [], i => rfl
  | s :: ss, i => by simp [ownedAll, ownedAll_length T d ss]

theorem one_rep {h' : Hp} {ρ'' : Nat → Loc} : ∀ (vr : List Value) (os : List SV), vr.length = os.length → (∀ (k : Nat) v s, vr[k]? = some v → os[k]? = some s → Rep h' ρ'' v s) → Rep h' ρ'' (rets vr) (one os)
  | [], [], _, _ => .tup #[] [] rfl (by simp)
  | [v], [s], _, hr => hr 0 v s rfl rfl
  | [], _ :: _, hl, _ => by simp at hl
  | _ :: _, [], hl, _ => by simp at hl
  | [_], _ :: _ :: _, hl, _ => by simp at hl
  | _ :: _ :: _, [_], hl, _ => by simp at hl
  | v :: v' :: vs, s :: s' :: ss, hl, hr => .tup _ _ (by simpa using hl) (fun i u c hu hc => hr i u c (by simpa using hu) hc)

theorem owned_ne_gd {T : Bool} {j : Nat} {s : SV} (hs : ∀ t w x, s ≠ .gd t w x) : ∀ t w x, owned T j s ≠ .gd t w x := by
  intro t w x
  cases T <;> cases s <;> simp_all [owned]

end
end Go.Px

/- Laws of the readings. -/
import Derived.Test.YtknnooannohflaaGreatDoorPxB
import Derived.Laws.Sem
namespace Go.Px
open Go.RowKit
set_option linter.unusedVariables false

theorem lget_eq (l : List SV) : ∀ n, lget l n = (l[n]?).getD .unk := by
  induction l with
  | nil => intro n; rfl
  | cons x xs ih => intro n; cases n with
    | zero => rfl
    | succ n => simpa [lget] using ih n

theorem lset_eq (l : List SV) (v : SV) : ∀ n, lset l n v = l.set n v := by
  induction l with
  | nil => intro n; cases n <;> rfl
  | cons x xs ih => intro n; cases n with
    | zero => rfl
    | succ n => simpa [lset] using ih n

theorem lenN_eq (l : List SV) : lenN l = l.length := by
  induction l with
  | nil => rfl
  | cons x xs ih => simpa [lenN] using ih

theorem takeN_eq : ∀ (n : Nat) (l : List SV), takeN n l = l.take n := by
  intro n
  induction n with
  | zero => intro l; simp [takeN]
  | succ n ih => intro l; cases l with
    | nil => simp [takeN]
    | cons x xs => simp [takeN, ih]

theorem dropN_eq : ∀ (n : Nat) (l : List SV), dropN n l = l.drop n := by
  intro n
  induction n with
  | zero => intro l; simp [dropN]
  | succ n ih => intro l; cases l with
    | nil => simp [dropN]
    | cons x xs => simp [dropN, ih]

theorem hmapL_getElem? (g : SV → SV) : ∀ (cs : List SV) (i : Nat), (hmapL g cs)[i]? = (cs[i]?).map (hmap g)
  | [], i => by simp [hmapL]
  | c :: cs, 0 => by simp [hmapL]
  | c :: cs, i + 1 => by simpa [hmapL] using hmapL_getElem? g cs i

theorem hmapL_length (g : SV → SV) : ∀ (cs : List SV), (hmapL g cs).length = cs.length
  | [] => rfl
  | c :: cs => by simp [hmapL, hmapL_length g cs]

theorem ungdAll_getElem? (d : Nat) : ∀ (cs : List SV) (i : Nat), (ungdAll d cs)[i]? = (cs[i]?).map (ungdBy d)
  | [], i => by simp [ungdAll]
  | c :: cs, 0 => by simp [ungdAll]
  | c :: cs, i + 1 => by simpa [ungdAll] using ungdAll_getElem? d cs i

theorem ungdAll_length (n : Nat) : ∀ (cs : List SV), (ungdAll n cs).length = cs.length
  | [] => rfl
  | c :: cs => by simp [ungdAll, ungdAll_length n cs]

theorem beq_false {k n : Nat} (h : k ≠ n) : Nat.beq k n = false := by
  cases hb : Nat.beq k n
  · rfl
  · exact absurd (Nat.eq_of_beq_eq_true hb) h

theorem oget_cons (k : Nat) (o : Ob) (xs : List (Nat × Ob)) (n : Nat) : oget ((k, o) :: xs) n = if k = n then some o else oget xs n := by
  simp only [oget]
  by_cases h : k = n
  · subst h; simp
  · simp [beq_false h, h]

theorem oget_append (l1 l2 : List (Nat × Ob)) (id : Nat) : oget (l1 ++ l2) id = (oget l1 id).or (oget l2 id) := by
  induction l1 with
  | nil => simp [oget]
  | cons x xs ih =>
    obtain ⟨k, o⟩ := x
    rw [List.cons_append, oget_cons, oget_cons, ih]
    split <;> simp

theorem oget_odel (xs : List (Nat × Ob)) (n m : Nat) : oget (odel xs n) m = if n = m then none else oget xs m := by
  induction xs with
  | nil => simp [odel, oget]
  | cons x xs ih =>
    obtain ⟨k, o⟩ := x
    simp only [odel]
    by_cases h : k = n
    · subst h
      simp only [Nat.beq_refl, cond_true, ih, oget_cons]
      split <;> simp_all
    · simp only [beq_false h, cond_false, oget_cons, ih]
      by_cases hm : n = m
      · subst hm; simp [h]
      · simp [hm]

theorem oget_oput (xs : List (Nat × Ob)) (n m : Nat) (o : Ob) : oget (oput xs n o) m = if n = m then (oget xs m).map (fun _ => o) else oget xs m := by
  induction xs with
  | nil => simp [oput, oget]
  | cons x xs ih =>
    obtain ⟨k, p⟩ := x
    simp only [oput]
    by_cases h : k = n
    · subst h
      simp only [Nat.beq_refl, cond_true, oget_cons, ih]
      by_cases hm : k = m <;> simp [hm]
    · simp only [beq_false h, cond_false, oget_cons, ih]
      by_cases hm : n = m
      · subst hm; simp [h]
      · simp [hm]

theorem oget_hmapO (g : SV → SV) (xs : List (Nat × Ob)) (m : Nat) : oget (hmapO g xs) m = (oget xs m).map (hmapOb g) := by
  induction xs with
  | nil => simp [hmapO, oget]
  | cons x xs ih =>
    obtain ⟨k, o⟩ := x
    simp only [hmapO, oget_cons, ih]
    split <;> simp

theorem HLe.refl (h : Hp) : HLe h h := fun _ _ _ e => e
theorem HLe.trans {a b c : Hp} (x : HLe a b) (y : HLe b c) : HLe a c := fun b o v e => y b o v (x b o v e)

theorem Keeps.refl (G : Nat → Prop) (w : World) : Keeps G w w := ⟨rfl, rfl, rfl, Nat.le_refl _, fun _ _ _ => rfl⟩
theorem Keeps.trans {G : Nat → Prop} {a b c : World} (x : Keeps G a b) (y : Keeps G b c) : Keeps G a c :=
  ⟨y.os.trans x.os, y.tape.trans x.tape, y.output.trans x.output, Nat.le_trans x.size y.size, fun k hk hg => (y.block k (Nat.lt_of_lt_of_le hk x.size) hg).trans (x.block k hk hg)⟩
/-- What a step that writes only new blocks, those of G and those that were handed in keeps. -/
theorem Keeps.step {G G' : Nat → Prop} {a b c : World} (x : Keeps G a b) (y : Keeps G' b c) (h : ∀ k, G' k → a.heap.size ≤ k ∨ G k) : Keeps G a c :=
  ⟨y.os.trans x.os, y.tape.trans x.tape, y.output.trans x.output, Nat.le_trans x.size y.size, fun k hk hg => by
    rw [y.block k (Nat.lt_of_lt_of_le hk x.size) (fun e => by rcases h k e with h | h; omega; exact hg h)]
    exact x.block k hk hg⟩
theorem Keeps.below {G : Nat → Prop} {a b : World} (x : Keeps G a b) (h : ∀ k, ¬ G k) : Below a.heap.size a b :=
  ⟨x.os, x.tape, x.output, x.size, fun k hk => x.block k hk (h k)⟩

theorem PRep.mono {h h' : Hp} (hle : HLe h h') {v : Value} {s : SV} (r : PRep h v s) : PRep h' v s := by
  induction r with
  | val v => exact .val v
  | agg vs cs hl _ ih => exact .agg vs cs hl ih
  | empty p cap sz tok ht h1 hn => exact .empty p cap sz tok ht h1 hn
  | slice b off cap sz rows tok vs hpos hz hh _ ho ht h1 hle' ih =>
    exact .slice b off cap sz rows tok vs hpos hz (fun i r j c hi hj => hle _ _ _ (hh i r j c hi hj)) ih ho ht h1 hle'
  | ref b base off cells vs hh _ ih => exact .ref b base off cells vs (fun j c hj => hle _ _ _ (hh j c hj)) ih
  | clo f vs cs hl _ ih => exact .clo f vs cs hl ih
  | ifc t v s _ ih => exact .ifc t v s ih
  | arr vs kd m ns hm hv => exact .arr vs kd m ns hm hv
  | unk v => exact .unk v

theorem Rep.mono {h h' : Hp} (hle : HLe h h') {ρ : Nat → Loc} {v : Value} {s : SV} (r : Rep h ρ v s) : Rep h' ρ v s := by
  induction r with
  | pure v s hp => exact .pure v s (hp.mono hle)
  | agg vs cs hl _ ih => exact .agg vs cs hl ih
  | tup vs cs hl _ ih => exact .tup vs cs hl ih
  | ptr id off => exact .ptr id off
  | bsl id off n => exact .bsl id off n
  | osl0 id p hn => exact .osl0 id p hn
  | osl id hn => exact .osl id hn
  | eptr id e i off hn => exact .eptr id e i off hn
  | osv id l hh c p h0 h1 h2 hc hp => exact .osv id l hh c p h0 h1 h2 hc hp
  | omp id => exact .omp id
  | aptr id i => exact .aptr id i
  | asl id l hh cap => exact .asl id l hh cap

/-- A datum that is none of parts. -/
def isLeaf : SV → Bool
  | .agg _ | .tup _ | .gd _ _ _ => false
  | _ => true

theorem hmap_leaf {g : SV → SV} {s : SV} (hs : isLeaf s = true) : hmap g s = g s := by
  cases s <;> first | rfl | (simp [isLeaf] at hs)

theorem Rep.not_gd {h : Hp} {ρ : Nat → Loc} {v : Value} {t : Nat} {b : Bool} {x : SV} (r : Rep h ρ v (.gd t b x)) : False := by
  cases r with
  | pure _ _ hp => cases hp

theorem PRep.turn {h h' : Hp} {ρ' : Nat → Loc} {g : SV → SV} (hg : ∀ v s, isLeaf s = true → PRep h v s → Rep h' ρ' v (g s)) {v : Value} {s : SV} (r : PRep h v s) : Rep h' ρ' v (hmap g s) := by
  induction r with
  | agg vs cs hl _ ih =>
    refine .agg vs _ (by rw [hmapL_length]; exact hl) fun i v c hv hc => ?_
    rw [hmapL_getElem?] at hc
    cases hx : cs[i]? with
    | none => simp [hx] at hc
    | some x => simp [hx] at hc; subst hc; exact ih i v x hv hx
  | val v => exact hg _ _ rfl (.val v)
  | empty p cap sz tok ht h1 hn => exact hg _ _ rfl (.empty p cap sz tok ht h1 hn)
  | slice b off cap sz rows tok vs hpos hz hh hr ho ht h1 hle => exact hg _ _ rfl (.slice b off cap sz rows tok vs hpos hz hh hr ho ht h1 hle)
  | ref b base off cells vs hh hr => exact hg _ _ rfl (.ref b base off cells vs hh hr)
  | clo f vs cs hl hc => exact hg _ _ rfl (.clo f vs cs hl hc)
  | ifc t v s hv => exact hg _ _ rfl (.ifc t v s hv)
  | arr vs kd m ns hm hv => exact hg _ _ rfl (.arr vs kd m ns hm hv)
  | unk v => exact hg _ _ rfl (.unk v)

theorem Rep.turn {h h' : Hp} {ρ ρ' : Nat → Loc} {g : SV → SV} (hg : ∀ v s, isLeaf s = true → Rep h ρ v s → Rep h' ρ' v (g s)) {v : Value} {s : SV} (r : Rep h ρ v s) : Rep h' ρ' v (hmap g s) := by
  induction r with
  | pure v s hp => exact hp.turn (fun v s hs r => hg v s hs (.pure _ _ r))
  | agg vs cs hl _ ih =>
    refine .agg vs _ (by rw [hmapL_length]; exact hl) fun i v c hv hc => ?_
    rw [hmapL_getElem?] at hc
    cases hx : cs[i]? with
    | none => simp [hx] at hc
    | some x => simp [hx] at hc; subst hc; exact ih i v x hv hx
  | tup vs cs hl _ ih =>
    refine .tup vs _ (by rw [hmapL_length]; exact hl) fun i v c hv hc => ?_
    rw [hmapL_getElem?] at hc
    cases hx : cs[i]? with
    | none => simp [hx] at hc
    | some x => simp [hx] at hc; subst hc; exact ih i v x hv hx
  | ptr id off => exact hg _ _ rfl (.ptr id off)
  | bsl id off n => exact hg _ _ rfl (.bsl id off n)
  | osl0 id p hn => exact hg _ _ rfl (.osl0 id p hn)
  | osl id hn => exact hg _ _ rfl (.osl id hn)
  | eptr id e i off hn => exact hg _ _ rfl (.eptr id e i off hn)
  | osv id l hh c p h0 h1 h2 hc hp => exact hg _ _ rfl (.osv id l hh c p h0 h1 h2 hc hp)
  | omp id => exact hg _ _ rfl (.omp id)
  | aptr id i => exact hg _ _ rfl (.aptr id i)
  | asl id l hh cap => exact hg _ _ rfl (.asl id l hh cap)

/-- Pure leaves stay as they are where no handle is turned. -/
theorem killG_pure {h : Hp} {v : Value} {s : SV} (n : Nat) (hs : isLeaf s = true) (r : PRep h v s) : killG n s = s := by
  cases r <;> first | rfl | (simp [isLeaf] at hs)

theorem Rep.kill (n : Nat) {h h' : Hp} (hle : HLe h h') {ρ ρ' : Nat → Loc} (hρ : ∀ i, i ≠ n → ρ' i = ρ i) {v : Value} {s : SV} (r : Rep h ρ v s) : Rep h' ρ' v (hmap (killG n) s) := by
  refine r.turn fun v s hs r => ?_
  have unk : Rep h' ρ' v .unk := .pure _ _ (.unk _)
  cases r with
  | pure _ _ hp => rw [killG_pure n hs hp]; exact .pure _ _ (hp.mono hle)
  | agg => simp [isLeaf] at hs
  | tup => simp [isLeaf] at hs
  | ptr id off =>
    by_cases h : id = n
    · subst h; simp only [killG, Nat.beq_refl, cond_true]; exact unk
    · simp only [killG, beq_false h, cond_false]; rw [← hρ id h]; exact .ptr id off
  | bsl id off k =>
    by_cases h : id = n
    · subst h; simp only [killG, Nat.beq_refl, cond_true]; exact unk
    · simp only [killG, beq_false h, cond_false]; rw [← hρ id h]; exact .bsl id off k
  | osl0 id p hn =>
    by_cases h : id = n
    · subst h; simp only [killG, Nat.beq_refl, cond_true]; exact unk
    · simp only [killG, beq_false h, cond_false]; exact .osl0 id p (by rw [hρ id h]; exact hn)
  | osl id hn =>
    by_cases h : id = n
    · subst h; simp only [killG, Nat.beq_refl, cond_true]; exact unk
    · simp only [killG, beq_false h, cond_false]; rw [← hρ id h] at hn ⊢; exact .osl id hn
  | eptr id e i off hn =>
    by_cases h : id = n
    · subst h; simp only [killG, Nat.beq_refl, cond_true]; exact unk
    · simp only [killG, beq_false h, cond_false]; rw [← hρ id h] at hn ⊢; exact .eptr id e i off hn
  | osv id l hh c p h0 h1 h2 hc hp =>
    by_cases h : id = n
    · subst h; simp only [killG, Nat.beq_refl, cond_true]; exact unk
    · simp only [killG, beq_false h, cond_false]; exact .osv id l hh c p h0 h1 h2 (by rw [hρ id h]; exact hc) (by rw [hρ id h]; exact hp)
  | omp id =>
    by_cases h : id = n
    · subst h; simp only [killG, Nat.beq_refl, cond_true]; exact unk
    · simp only [killG, beq_false h, cond_false]; rw [← hρ id h]; exact .omp id
  | aptr id i =>
    by_cases h : id = n
    · subst h; simp only [killG, Nat.beq_refl, cond_true]; exact unk
    · simp only [killG, beq_false h, cond_false]; rw [← hρ id h]; exact .aptr id i
  | asl id l hh cap =>
    by_cases h : id = n
    · subst h; simp only [killG, Nat.beq_refl, cond_true]; exact unk
    · simp only [killG, beq_false h, cond_false]; rw [← hρ id h]; exact .asl id l hh cap

theorem PRep.tok0 {h : Hp} {v : Value} {sz : Nat} {rows : List (List SV)} {tok : Nat} (r : PRep h v (.slice sz rows tok)) : PRep h v (.slice sz rows 0) := by
  cases r with
  | empty p cap _ _ ht h1 hn => exact .empty p cap sz 0 (by omega) (by omega) hn
  | slice b off cap _ _ _ vs hpos hz hh hr ho ht h1 hle => exact .slice b off cap sz rows 0 vs hpos hz hh hr ho (by omega) (by omega) hle

theorem PRep.fix {h : Hp} {v : Value} {sz sz' : Nat} {rows : List (List SV)} {tok : Nat} (r : PRep h v (.slice sz' rows tok)) (hz : sz' = sz ∨ sz' = 0) : PRep h v (.slice sz rows tok) := by
  rcases hz with rfl | rfl
  · exact r
  · cases r with
    | empty p cap _ _ ht h1 hn => exact .empty p cap _ _ ht h1 hn
    | slice _ _ _ _ _ _ _ hpos => exact absurd hpos (Nat.lt_irrefl 0)

theorem HSub.lt {h : Hp} {w : World} {b o : Nat} {v : Value} (hs : HSub h w) (e : h b o = some v) : b < w.heap.size := by
  have := hs b o v e
  unfold World.cell? at this
  simp only [] at this
  rcases Nat.lt_or_ge b w.heap.size with h' | h'
  · exact h'
  · rw [Array.getElem?_eq_none h'] at this; cases this


theorem TRep.of_rep {h : Hp} {ρ : Nat → Loc} {tmps : Array Value} {v : Value} {s : SV} (hs : ∀ t w x, s ≠ .gd t w x) (r : Rep h ρ v s) : TRep h ρ tmps v s := by
  cases s <;> first | exact r | exact absurd rfl (hs _ _ _)

theorem TRep.of_rep' {h : Hp} {ρ : Nat → Loc} {tm : Array Value} {v : Value} {s : SV} (r : Rep h ρ v s) : TRep h ρ tm v s :=
  .of_rep (fun t w x e => by subst e; exact r.not_gd) r

theorem TRep.rep_unk {h : Hp} {ρ : Nat → Loc} (tmps : Array Value) (v : Value) : TRep h ρ tmps v .unk := Rep.pure _ _ (.unk _)

/-- A reading of a slot is carried over to another h, ρ and other slots where its guard's slot is the same. -/
theorem TRep.carry {h h' : Hp} {ρ ρ' : Nat → Loc} {tm tm' : Array Value} {v : Value} {s s' : SV}
    (hg : ∀ t w x, s = .gd t w x → s' = .unk ∨ ∃ x', s' = .gd t w x' ∧ tm'.getD t undef = tm.getD t undef ∧ (Rep h ρ v x → Rep h' ρ' v x'))
    (hr : (∀ t w x, s ≠ .gd t w x) → (∀ t w x, s' ≠ .gd t w x) ∧ (Rep h ρ v s → Rep h' ρ' v s')) (r : TRep h ρ tm v s) : TRep h' ρ' tm' v s' := by
  by_cases hs : ∃ t w x, s = .gd t w x
  · obtain ⟨t, w, x, rfl⟩ := hs
    rcases hg t w x rfl with rfl | ⟨x', rfl, ht, hx⟩
    · exact .rep_unk _ _
    · simp only [TRep] at r ⊢
      rw [ht]
      exact r.elim (fun ⟨a, b⟩ => Or.inl ⟨a, hx b⟩) Or.inr
  · have hn : ∀ t w x, s ≠ .gd t w x := fun t w x e => hs ⟨t, w, x, e⟩
    obtain ⟨hn', hx⟩ := hr hn
    refine .of_rep hn' (hx ?_)
    cases s <;> first | exact r | exact absurd rfl (hn _ _ _)

theorem TRep.turn {h h' : Hp} {ρ ρ' : Nat → Loc} {tm : Array Value} {v : Value} {s : SV} {g : SV → SV} (hg : ∀ s, Rep h ρ v s → Rep h' ρ' v (hmap g s)) (r : TRep h ρ tm v s) : TRep h' ρ' tm v (hmap g s) := by
  by_cases hs : ∃ t w x, s = .gd t w x
  · obtain ⟨t, w, x, rfl⟩ := hs
    simp only [TRep, hmap] at r ⊢
    exact r.elim (fun ⟨a, b⟩ => Or.inl ⟨a, hg x b⟩) Or.inr
  · have hn : ∀ t w x, s ≠ .gd t w x := fun t w x e => hs ⟨t, w, x, e⟩
    refine TRep.of_rep' (hg s ?_)
    cases s <;> first | exact r | exact absurd rfl (hn _ _ _)

theorem TRep.mono {h h' : Hp} {ρ : Nat → Loc} {tm : Array Value} {v : Value} {s : SV} (hle : HLe h h') (r : TRep h ρ tm v s) : TRep h' ρ tm v s :=
  r.carry (fun t w x e => .inr ⟨x, e, rfl, fun r => r.mono hle⟩) (fun hn => ⟨hn, fun r => r.mono hle⟩)

theorem ungdBy_ne {d : Nat} {s : SV} (hs : ∀ t w x, s ≠ .gd t w x) : ungdBy d s = s := by
  cases s <;> first | rfl | exact absurd rfl (hs _ _ _)

theorem ungdBy_gd_same (d : Nat) (w : Bool) (x : SV) : ungdBy d (.gd d w x) = .unk := by simp [ungdBy]
theorem ungdBy_gd_ne {d t : Nat} (h : d ≠ t) (w : Bool) (x : SV) : ungdBy d (.gd t w x) = .gd t w x := by simp [ungdBy, beq_false h]

theorem getD_set_ne' {tm : Array Value} {d t : Nat} (v : Value) (h : d ≠ t) : (tm.setIfInBounds d v).getD t undef = tm.getD t undef := by
  simp [Array.getElem?_setIfInBounds_ne h]

def upd (ρ : Nat → Loc) (id : Nat) (l : Loc) : Nat → Loc := fun i => if i = id then l else ρ i

theorem upd_same (ρ : Nat → Loc) (id : Nat) (l : Loc) : upd ρ id l id = l := by simp [upd]
theorem upd_ne (ρ : Nat → Loc) {id i : Nat} (l : Loc) (h : i ≠ id) : upd ρ id l i = ρ i := by simp [upd, h]

section
variable {X : Cx} {h : Hp} {ρ : Nat → Loc} {st : St} {a : Act} {w : World}

/-- A slot is written. -/
theorem FitsAt.put (F : FitsAt X h ρ st a w) (d : Option Nat) {v : Value} {s : SV} (r : TRep h ρ a.tmps v s) : FitsAt X h ρ (st.put d s) (a.put d v) w := by
  cases d with
  | none => exact F
  | some d =>
    refine { F with size := ?_, tm := ?_, df := F.df }
    · simp [St.put, Act.put, lset_eq, ungdAll_length, F.size]
    · intro t s' hs'
      simp only [St.put, lset_eq, Act.put] at hs' ⊢
      rw [List.getElem?_set] at hs'
      by_cases hdt : d = t
      · subst hdt
        simp only [if_true] at hs'
        split at hs'
        · rename_i hlt
          cases hs'
          have hlt' : d < a.tmps.size := by rw [F.size]; rwa [ungdAll_length] at hlt
          have hv : (a.tmps.setIfInBounds d v).getD d undef = v := by simp [hlt']
          rw [hv]
          refine r.carry (fun t w x e => ?_) (fun hn => ?_)
          · subst e
            by_cases hd : d = t
            · subst hd; exact .inl (ungdBy_gd_same _ _ _)
            · exact .inr ⟨x, ungdBy_gd_ne hd _ _, getD_set_ne' _ hd, id⟩
          · rw [ungdBy_ne hn]; exact ⟨hn, id⟩
        · cases hs'
      · simp only [hdt, if_false] at hs'
        rw [ungdAll_getElem?] at hs'
        cases hx : st.tmps[t]? with
        | none => simp [hx] at hs'
        | some x =>
          simp [hx] at hs'
          subst hs'
          rw [getD_set_ne' _ hdt]
          refine (F.tm t x hx).carry (fun t' w' y e => ?_) (fun hn => ?_)
          · subst e
            by_cases hd : d = t'
            · subst hd; exact .inl (ungdBy_gd_same _ _ _)
            · exact .inr ⟨y, ungdBy_gd_ne hd _ _, getD_set_ne' _ hd, id⟩
          · rw [ungdBy_ne hn]; exact ⟨hn, id⟩

theorem OwnOK.mono {h' : Hp} {w' : World} {l : Loc} {sz : Nat} {rows : List (List SV)} (r : OwnOK h w l sz rows) (hle : HLe h h') (hb : w'.heap[l.blk]? = w.heap[l.blk]?)
    (hno : ∀ o, h l.blk o = none → h' l.blk o = none) : OwnOK h' w' l sz rows := by
  obtain ⟨cs, t, fz, hc, hs, hf, hv⟩ := r.hblk
  exact { r with hblk := ⟨cs, t, fz, by rw [hb]; exact hc, hs, hf, fun i r' j c h1 h2 => by
    obtain ⟨v, e1, e2, e3⟩ := hv i r' j c h1 h2; exact ⟨v, e1, e2.mono hle, e3⟩⟩, hh := fun o => hno o (r.hh o), hfz := fun cs t fz e => r.hfz cs t fz (by rw [← hb]; exact e), hcm := r.hcm }

/-- Objects are read alike in another world that has their blocks. -/
theorem ObOK.turn {h' : Hp} {ρ' : Nat → Loc} {w' : World} {id : Nat} {o : Ob} {g : SV → SV} (hrep : ∀ v s, Rep h ρ v s → Rep h' ρ' v (hmap g s)) (hle : HLe h h') (hρ : ρ' id = ρ id)
    (hb : (ρ id).none = false → w'.heap[(ρ id).blk]? = w.heap[(ρ id).blk]?) (hh : (ρ id).none = false → ∀ x, h (ρ id).blk x = none → h' (ρ id).blk x = none)
    (r : ObOK h ρ w id o) : ObOK h' ρ' w' id (hmapOb g o) := by
  cases o with
  | box cells =>
    obtain ⟨hn, ⟨cs, t, hc, hsz, hcell⟩, hno⟩ := r
    refine ⟨by rw [hρ]; exact hn, ⟨cs, t, by rw [hρ, hb hn]; exact hc, by rw [hmapL_length]; exact hsz, fun i v c hv hc => ?_⟩, fun x => by rw [hρ]; exact hh hn x (hno x)⟩
    rw [hmapL_getElem?] at hc
    cases hx : cells[i]? with
    | none => simp [hx] at hc
    | some y =>
      simp [hx] at hc
      subst hc
      obtain ⟨p, q⟩ := hcell i v y hv hx
      exact ⟨hrep _ _ p, q⟩
  | own sz rows =>
    rcases r with ⟨hn, e⟩ | ⟨hn, r⟩
    · exact .inl ⟨by rw [hρ]; exact hn, e⟩
    · refine .inr ⟨by rw [hρ]; exact hn, ?_⟩
      rw [hρ]
      exact r.mono hle (hb hn) (hh hn)
  | mp es =>
    obtain ⟨hn, ⟨ents, cl, hc, hm⟩, hno⟩ := r
    exact ⟨by rw [hρ]; exact hn, ⟨ents, cl, by rw [hρ, hb hn]; exact hc, hm⟩, fun x => by rw [hρ]; exact hh hn x (hno x)⟩
  | arr kd m ns =>
    obtain ⟨hn, ⟨cs, t, hc, hm⟩, hno⟩ := r
    exact ⟨by rw [hρ]; exact hn, ⟨cs, t, by rw [hρ, hb hn]; exact hc, hm⟩, fun x => by rw [hρ]; exact hh hn x (hno x)⟩

mutual
theorem hmap_id : ∀ (s : SV), hmap (fun s => s) s = s
  | .agg cs => by simp [hmap, hmapL_id cs]
  | .tup cs => by simp [hmap, hmapL_id cs]
  | .gd t w v => by simp [hmap, hmap_id v]
  | .val _ | .slice .. | .mapv _ | .ref .. | .clo .. | .ifc .. | .ptr .. | .bsl .. | .osl _ | .eptr .. | .osv .. | .omp _ | .arr .. | .aptr .. | .asl .. | .unk => by simp [hmap]
theorem hmapL_id : ∀ (l : List SV), hmapL (fun s => s) l = l
  | [] => rfl
  | c :: cs => by simp [hmapL, hmap_id c, hmapL_id cs]
end

theorem hmapOb_id (o : Ob) : hmapOb (fun s => s) o = o := by cases o <;> simp [hmapOb, hmapL_id]

theorem ObOK.carry {h' : Hp} {w' : World} {id : Nat} {o : Ob} (hle : HLe h h')
    (hb : (ρ id).none = false → w'.heap[(ρ id).blk]? = w.heap[(ρ id).blk]?) (hh : (ρ id).none = false → ∀ x, h (ρ id).blk x = none → h' (ρ id).blk x = none)
    (r : ObOK h ρ w id o) : ObOK h' ρ w' id o := by
  have := r.turn (ρ' := ρ) (g := fun s => s) (fun v s q => by rw [hmap_id]; exact q.mono hle) hle rfl hb hh
  rwa [hmapOb_id] at this

theorem ObOK.blk_lt {id : Nat} {o : Ob} (r : ObOK h ρ w id o) (hn : (ρ id).none = false) : (ρ id).blk < w.heap.size := by
  have : ∀ x, w.heap[(ρ id).blk]? = some x → (ρ id).blk < w.heap.size := fun x hx => (Array.getElem?_eq_some_iff.1 hx).1
  cases o with
  | box cells => obtain ⟨_, ⟨cs, t, hc, _⟩, _⟩ := r; exact this _ hc
  | own sz rows =>
    rcases r with ⟨e, _⟩ | ⟨_, r⟩
    · rw [e] at hn; cases hn
    · obtain ⟨cs, t, fz, hc, _⟩ := r.hblk; exact this _ hc
  | mp es => obtain ⟨_, ⟨ents, cl, hc, _⟩, _⟩ := r; exact this _ hc
  | arr kd m ns => obtain ⟨_, ⟨cs, t, hc, _⟩, _⟩ := r; exact this _ hc

/-- What an object's block holds is in no part that never changes. -/
theorem ObOK.hno {id : Nat} {o : Ob} (r : ObOK h ρ w id o) (hn : (ρ id).none = false) : ∀ x, h (ρ id).blk x = none := by
  cases o with
  | box cells => exact r.2.2
  | own sz rows =>
    rcases r with ⟨e, _⟩ | ⟨_, r⟩
    · rw [e] at hn; cases hn
    · exact r.hh
  | mp es => exact r.2.2
  | arr kd m ns => exact r.2.2

theorem hsub_carry {w' : World} (hs : HSub h w) (hk : ∀ b, b < w.heap.size → w'.heap[b]? = w.heap[b]?) : HSub h w' := fun b o v e => by
  have := hs b o v e
  have hlt := hs.lt e
  unfold World.cell? at this ⊢
  simp only [] at this ⊢
  rw [hk b hlt]; exact this

theorem Gl.le {h h' : Hp} {w : World} (g : Gl h w) (hle : HLe h h') : Gl h' w :=
  ⟨fun p hp i c e => by
    obtain ⟨v, h1, h2⟩ := g.cells p hp i c e
    exact ⟨v, hle _ _ _ h1, h2.mono hle⟩, g.size⟩

theorem Gl.off {h : Hp} {w : World} (g : Gl h w) {objs : List (Nat × Ob)} {ρ : Nat → Loc} (hn : ∀ i, live objs ρ i → ∀ o, h (ρ i).blk o = none) : ∀ p ∈ globTab, ¬ Gv objs ρ p.1 := by
  rintro p hp ⟨i, hi, e⟩
  obtain ⟨hpos, _⟩ := g.size p hp
  obtain ⟨v, h1, _⟩ := g.cells p hp 0 _ (List.getElem?_eq_getElem hpos)
  rw [← e, hn i hi 0] at h1
  cases h1

theorem ObOK.hnone {h : Hp} {ρ : Nat → Loc} {w : World} {id : Nat} {o : Ob} (k : ObOK h ρ w id o) (hn : (ρ id).none = false) : ∀ x, h (ρ id).blk x = none := by
  cases o with
  | box cells => exact k.2.2
  | own sz rows =>
    rcases k with ⟨h1, _⟩ | ⟨_, h2⟩
    · rw [h1] at hn; cases hn
    · exact h2.hh
  | mp es => exact k.2.2
  | arr kd m ns => exact k.2.2

theorem FitsAt.glob (F : FitsAt X h ρ st a w) : Gl h w := by
  refine ⟨(F.gl.1.le F.mono).cells, fun p hp => ?_⟩
  obtain ⟨h1, cs, t, fz, h2, h3⟩ := F.gl.1.size p hp
  refine ⟨h1, cs, t, fz, ?_, h3⟩
  rw [F.kp.block p.1 (by
    have := Array.getElem?_eq_some_iff.1 h2
    exact this.1) (F.gl.2 p hp)]
  exact h2

/-- h grows by cells of new blocks. -/
theorem FitsAt.grow {h' : Hp} {w' : World} (F : FitsAt X h ρ st a w) (hle : HLe h h') (hk : ∀ b, b < w.heap.size → w'.heap[b]? = w.heap[b]?)
    (hold : ∀ b, b < w.heap.size → ∀ o, h b o = none → h' b o = none) (hsub : HSub h' w') (hkp : Keeps X.G X.w w') : FitsAt X h' ρ st a w' := by
  have lt := fun id o ho hn => ObOK.blk_lt (F.obj id o ho) hn
  refine { F with tm := fun t s hs => (F.tm t s hs).mono hle, sub := hsub, obj := fun id o ho => ?_, mono := F.mono.trans hle, ext := fun b hb hg o e => ?_, kp := hkp }
  · exact (F.obj id o ho).carry hle (fun hn => hk _ (lt id o ho hn)) (fun hn x => hold _ (lt id o ho hn) x)
  · exact hold b (Nat.lt_of_lt_of_le hb F.kp.size) o (F.ext b hb hg o e)

theorem FitsAt.world {w' : World} (F : FitsAt X h ρ st a w) (hk : ∀ b, b < w.heap.size → w'.heap[b]? = w.heap[b]?) (hkp : Keeps X.G X.w w') : FitsAt X h ρ st a w' :=
  F.grow (HLe.refl h) hk (fun _ _ _ e => e) (hsub_carry F.sub hk) hkp

/-- Slots are turned, objects are left out or turned. -/
theorem FitsAt.turn {h' : Hp} {ρ' : Nat → Loc} {w' : World} (F : FitsAt X h ρ st a w) (g : SV → SV) (objs' : List (Nat × Ob)) (hrep : ∀ v s, Rep h ρ v s → Rep h' ρ' v (hmap g s))
    (hobj : ∀ id o, oget objs' id = some o → ObOK h' ρ' w' id o) (hlive : ∀ i, live objs' ρ' i → live st.objs ρ i ∧ (ρ' i).blk = (ρ i).blk)
    (hsub : HSub h' w') (hle : HLe h h') (hext : ∀ b, b < X.w.heap.size → ¬ X.G b → ∀ o, h b o = none → h' b o = none) (hkp : Keeps X.G X.w w') (hpin : ∀ i, idOK i = false → ρ' i = ρ i) :
    FitsAt X h' ρ' { tmps := hmapL g st.tmps, objs := objs' } a w' where
  size := by simp [hmapL_length, F.size]
  tm := fun t s hs => by
    simp only [hmapL_getElem?] at hs
    cases hx : st.tmps[t]? with
    | none => simp [hx] at hs
    | some x => simp [hx] at hs; subst hs; exact (F.tm t x hx).turn (fun s r => hrep _ s r)
  df := F.df
  sub := hsub
  obj := hobj
  inj := fun i j hi hj hij => by rw [(hlive i hi).2, (hlive j hj).2]; exact F.inj i j (hlive i hi).1 (hlive j hj).1 hij
  own := fun i hi => by rw [(hlive i hi).2]; exact F.own i (hlive i hi).1
  mono := F.mono.trans hle
  ext := fun b hb hg o e => hext b hb hg o (F.ext b hb hg o e)
  kp := hkp
  pin := fun i l e => ⟨by rw [hpin i (F.pin i l e).2]; exact (F.pin i l e).1, (F.pin i l e).2⟩
  gl := F.gl

theorem oget_hmapO_some {g : SV → SV} {xs : List (Nat × Ob)} {m : Nat} {o : Ob} (e : oget (hmapO g xs) m = some o) : ∃ o', oget xs m = some o' ∧ o = hmapOb g o' := by
  rw [oget_hmapO] at e
  cases h : oget xs m with
  | none => simp [h] at e
  | some o' => simp [h] at e; exact ⟨o', rfl, e.symm⟩

theorem oget_odel_some {xs : List (Nat × Ob)} {n m : Nat} {o : Ob} (e : oget (odel xs n) m = some o) : m ≠ n ∧ oget xs m = some o := by
  rw [oget_odel] at e
  split at e
  · cases e
  · rename_i h; exact ⟨fun x => h x.symm, e⟩

/-- The object is gone; its number may name another place. -/
theorem FitsAt.drop (F : FitsAt X h ρ st a w) (id : Nat) {ρ' : Nat → Loc} (hρ : ∀ i, i ≠ id → ρ' i = ρ i) (hid : idOK id = true ∨ ρ' id = ρ id) : FitsAt X h ρ' (st.drop id) a w := by
  refine F.turn (killG id) _ (fun v s r => r.kill id (HLe.refl h) hρ) (fun i o e => ?_) (fun i hi => ?_) F.sub (HLe.refl h) (fun _ _ _ _ e => e) F.kp (fun i hi => ?_)
  · obtain ⟨o', e', rfl⟩ := oget_hmapO_some e
    obtain ⟨hne, e''⟩ := oget_odel_some e'
    exact (F.obj i o' e'').turn (fun v s r => r.kill id (HLe.refl h) hρ) (HLe.refl h) (hρ i hne) (fun _ => rfl) (fun _ _ e => e)
  · obtain ⟨⟨o, e⟩, hn⟩ := hi
    obtain ⟨o', e', rfl⟩ := oget_hmapO_some e
    obtain ⟨hne, e''⟩ := oget_odel_some e'
    rw [hρ i hne] at hn ⊢
    exact ⟨⟨⟨o', e''⟩, hn⟩, rfl⟩
  · by_cases e : i = id
    · subst e
      rcases hid with h | h
      · rw [hi] at h; cases h
      · exact h
    · exact hρ i e

/-- One object more. -/
theorem FitsAt.add (F : FitsAt X h ρ st a w) (id : Nat) (o : Ob) (hno : oget st.objs id = none) (ho : ObOK h ρ w id o)
    (hown : (ρ id).none = false → X.w.heap.size ≤ (ρ id).blk ∨ X.G (ρ id).blk) (hnew : (ρ id).none = false → ∀ i, live st.objs ρ i → (ρ i).blk ≠ (ρ id).blk) :
    FitsAt X h ρ { st with objs := (id, o) :: st.objs } a w := by
  have hcase : ∀ i, live ((id, o) :: st.objs) ρ i → i = id ∨ live st.objs ρ i := by
    rintro i ⟨⟨x, hx⟩, hn⟩
    rw [oget_cons] at hx
    split at hx
    · rename_i e; exact .inl e.symm
    · exact .inr ⟨⟨x, hx⟩, hn⟩
  refine { F with obj := fun i x hx => ?_, inj := fun i j hi hj hij => ?_, own := fun i hi => ?_ }
  · simp only [oget_cons] at hx
    split at hx
    · rename_i e; subst e; cases hx; exact ho
    · exact F.obj i x hx
  · rcases hcase i hi with rfl | hi'
    · rcases hcase j hj with rfl | hj'
      · exact absurd rfl hij
      · exact Ne.symm (hnew hi.2 j hj')
    · rcases hcase j hj with rfl | hj'
      · exact hnew hj.2 i hi'
      · exact F.inj i j hi' hj' hij
  · rcases hcase i hi with rfl | hi'
    · exact hown hi.2
    · exact F.own i hi'

theorem oget_drop_self (st : St) (id : Nat) : oget (st.drop id).objs id = none := by simp [St.drop, oget_hmapO, oget_odel]

/-- An object of one's own is named. Its block is nobody's else. -/
theorem FitsAt.bind (F : FitsAt X h ρ st a w) (id : Nat) (hid : idOK id = true) (o : Ob) (l : Loc) (ho : ObOK h (upd ρ id l) w id (hmapOb (killG id) o))
    (hown : l.none = false → X.w.heap.size ≤ l.blk ∨ X.G l.blk) (hnew : l.none = false → ∀ i, i ≠ id → live st.objs ρ i → (ρ i).blk ≠ l.blk) :
    FitsAt X h (upd ρ id l) (st.bind id o) a w := by
  have F1 := F.drop id (ρ' := upd ρ id l) (fun i hi => upd_ne ρ l hi) (.inl hid)
  refine F1.add id _ (oget_drop_self st id) ho (by rw [upd_same]; exact hown) (fun hn i hi => ?_)
  rw [upd_same] at hn ⊢
  obtain ⟨⟨o', e⟩, hn'⟩ := hi
  obtain ⟨o'', e', rfl⟩ := oget_hmapO_some e
  obtain ⟨hne, e''⟩ := oget_odel_some e'
  rw [upd_ne ρ l hne] at hn' ⊢
  exact hnew hn i hne ⟨⟨o'', e''⟩, hn'⟩

/-- An object turns; its place stays. -/
theorem FitsAt.setOb (F : FitsAt X h ρ st a w) (id : Nat) (o o' : Ob) (w' : World) (ho : oget st.objs id = some o) (hn : (ρ id).none = false) (ho' : ObOK h ρ w' id o')
    (hoth : ∀ b, b ≠ (ρ id).blk → w'.heap[b]? = w.heap[b]?) (hkp : Keeps (fun b => b = (ρ id).blk) w w') : FitsAt X h ρ { st with objs := oput st.objs id o' } a w' := by
  have hlv : live st.objs ρ id := ⟨⟨_, ho⟩, hn⟩
  have hno := (F.obj id _ ho).hno hn
  have hlive : ∀ i, live (oput st.objs id o') ρ i → live st.objs ρ i := by
    rintro i ⟨⟨x, hx⟩, hni⟩
    rw [oget_oput] at hx
    split at hx
    · rename_i e; subst e; exact hlv
    · exact ⟨⟨x, hx⟩, hni⟩
  refine { F with tm := F.tm, sub := fun b o v e => ?_, obj := fun i x hi => ?_, inj := fun i j hi hj => F.inj i j (hlive i hi) (hlive j hj), own := fun i hi => F.own i (hlive i hi), kp := ?_ }
  · have hb : b ≠ (ρ id).blk := fun hb => by subst hb; rw [hno o] at e; cases e
    have := F.sub b o v e
    unfold World.cell? at this ⊢
    simp only [] at this ⊢
    rw [hoth b hb]; exact this
  · simp only [oget_oput] at hi
    by_cases hii : id = i
    · subst hii
      rw [if_pos rfl, ho] at hi
      cases hi
      exact ho'
    · rw [if_neg hii] at hi
      refine (F.obj i x hi).carry (HLe.refl h) (fun hni => hoth _ ?_) (fun _ _ e => e)
      exact F.inj i id ⟨⟨x, hi⟩, hni⟩ hlv (Ne.symm hii)
  · refine F.kp.step hkp (fun k hk => ?_)
    subst hk
    exact F.own id hlv

end
end Go.Px

/- Laws of the readings. -/
import Derived.Test.YtknnooannohflaaDoorPxB
import Derived.Laws.Sem
import Derived.Laws.Cells
import Derived.Laws.StructEq
import Derived.ChangeKeysEq
import Derived.Laws.CopyRow
namespace Go.Px
open Go.RowKit
set_option linter.unusedVariables false

theorem Zco (l : List SV) : ∀ n, lget l n = (l[n]?).getD .unk := by
 induction l with
 | nil => intro n; rfl
 | cons x xs ih => intro n; cases n with
  | zero => rfl
  | succ n => simpa [lget] using ih n

theorem Zfl (l : List SV) (v : SV) : ∀ n, lset l n v = l.set n v := by
 induction l with
 | nil => intro n; cases n <;> rfl
 | cons x xs ih => intro n; cases n with
  | zero => rfl
  | succ n => simpa [lset] using ih n

theorem Zbi (l : List SV) : lenN l = l.length := by
 induction l with
 | nil => rfl
 | cons x xs ih => simpa [lenN] using ih

theorem Ze2 : ∀ (n : Nat) (l : List SV), takeN n l = l.take n := by
 intro n
 induction n with
 | zero => intro l; simp [takeN]
 | succ n ih => intro l; cases l with
  | nil => simp [takeN]
  | cons x xs => simp [takeN, ih]

theorem Ze3 : ∀ (n : Nat) (l : List SV), dropN n l = l.drop n := by
 intro n
 induction n with
 | zero => intro l; simp [dropN]
 | succ n ih => intro l; cases l with
  | nil => simp [dropN]
  | cons x xs => simp [dropN, ih]

theorem hmapL_getElem? (g : SV → SV) : ∀ (cs : List SV) (i : Nat), (hmapL g cs)[i]? = (cs[i]?).map (hmap g)
 | [], i => by simp [hmapL]
 | c :: cs, 0 => by simp [hmapL]
 | c :: cs, i + 1 => by simpa [hmapL] using hmapL_getElem? g cs i

theorem Zbw (g : SV → SV) : ∀ (cs : List SV), (hmapL g cs).length = cs.length
 | [] => rfl
 | c :: cs => by simp [hmapL, Zbw g cs]

theorem ungdAll_getElem? (d : Nat) : ∀ (cs : List SV) (i : Nat), (Zfp d cs)[i]? = (cs[i]?).map (Zim d)
 | [], i => by simp [Zfp]
 | c :: cs, 0 => by simp [Zfp]
 | c :: cs, i + 1 => by simpa [Zfp] using ungdAll_getElem? d cs i

theorem Zef (n : Nat) : ∀ (cs : List SV), (Zfp n cs).length = cs.length
 | [] => rfl
 | c :: cs => by simp [Zfp, Zef n cs]

theorem Zaq {k n : Nat} (h : k ≠ n) : Nat.beq k n = false := by
 cases hb : Nat.beq k n
 ·rfl
 ·exact absurd (Nat.eq_of_beq_eq_true hb) h

theorem Zbp (k : Nat) (o : Ob) (xs : List (Nat × Ob)) (n : Nat) : oget ((k, o) :: xs) n = if k = n then some o else oget xs n := by
 simp only [oget]; by_cases h : k = n
 ·subst h; simp
 ·simp [Zaq h, h]

theorem Zj6 (l1 l2 : List (Nat × Ob)) (id : Nat) : oget (l1 ++ l2) id = (oget l1 id).or (oget l2 id) := by
 induction l1 with
 | nil => simp [oget]
 | cons x xs ih =>
  obtain ⟨k, o⟩ := x; rw [List.cons_append, Zbp, Zbp, ih]
  split <;> simp

theorem Znu (xs : List (Nat × Ob)) (n m : Nat) : oget (odel xs n) m = if n = m then none else oget xs m := by
 induction xs with
 | nil => simp [odel, oget]
 | cons x xs ih =>
  obtain ⟨k, o⟩ := x; simp only [odel]; by_cases h : k = n
  ·subst h; simp only [Nat.beq_refl, cond_true, ih, Zbp]
   split <;> simp_all
  ·simp only [Zaq h, cond_false, Zbp, ih]; by_cases hm : n = m
   ·subst hm; simp [h]
   ·simp [hm]

theorem Zhi (xs : List (Nat × Ob)) (n m : Nat) (o : Ob) : oget (oput xs n o) m = if n = m then (oget xs m).map (fun _ => o) else oget xs m := by
 induction xs with
 | nil => simp [oput, oget]
 | cons x xs ih =>
  obtain ⟨k, p⟩ := x; simp only [oput]; by_cases h : k = n
  ·subst h; simp only [Nat.beq_refl, cond_true, Zbp, ih]; by_cases hm : k = m <;> simp [hm]
  ·simp only [Zaq h, cond_false, Zbp, ih]; by_cases hm : n = m
   ·subst hm; simp [h]
   ·simp [hm]

theorem Zf3 (g : SV → SV) (xs : List (Nat × Ob)) (m : Nat) : oget (hmapO g xs) m = (oget xs m).map (Zd5 g) := by
 induction xs with
 | nil => simp [hmapO, oget]
 | cons x xs ih =>
  obtain ⟨k, o⟩ := x; simp only [hmapO, Zbp, ih]
  split <;> simp

theorem HLe.refl (h : Hp) : HLe h h := fun _ _ _ e => e
theorem HLe.trans {a b c : Hp} (x : HLe a b) (y : HLe b c) : HLe a c := fun b o v e => y b o v (x b o v e)

theorem Keeps.refl (G : Nat → Prop) (w : World) : Keeps G w w := ⟨rfl, rfl, rfl, Nat.le_refl _, fun _ _ _ => rfl⟩
theorem Keeps.trans {G : Nat → Prop} {a b c : World} (x : Keeps G a b) (y : Keeps G b c) : Keeps G a c :=
 ⟨y.os.trans x.os, y.tape.trans x.tape, y.output.trans x.output, Nat.le_trans x.size y.size, fun k hk hg => (y.block k (Nat.lt_of_lt_of_le hk x.size) hg).trans (x.block k hk hg)⟩
theorem Keeps.step {G G' : Nat → Prop} {a b c : World} (x : Keeps G a b) (y : Keeps G' b c) (h : ∀ k, G' k → a.heap.size ≤ k ∨ G k) : Keeps G a c :=
 ⟨y.os.trans x.os, y.tape.trans x.tape, y.output.trans x.output, Nat.le_trans x.size y.size, fun k hk hg => by
  rw [y.block k (Nat.lt_of_lt_of_le hk x.size) (fun e => by rcases h k e with h | h; omega; exact hg h)]
  exact x.block k hk hg⟩
theorem Keeps.below {G : Nat → Prop} {a b : World} (x : Keeps G a b) (h : ∀ k, ¬ G k) : Below a.heap.size a b :=
 ⟨x.os, x.tape, x.output, x.size, fun k hk => x.block k hk (h k)⟩

theorem PRep.mono {h h' : Hp} (hle : HLe h h') {v : Value} {s : SV} (r : PRep h v s) : PRep h' v s := by
 induction r with
 | val v => exact .val v
 | agg vs cs hl _ ih => exact .agg vs cs hl ih
 | empty p cap sz tok ht h1 hn => exact .empty p cap sz tok ht h1 hn
 | slice b off cap sz rows tok vs hpos hz hh _ ho ht h1 hle' ih => exact .slice b off cap sz rows tok vs hpos hz (fun i r j c hi hj => hle _ _ _ (hh i r j c hi hj)) ih ho ht h1 hle'
 | ref b base off cells vs hh _ ih => exact .ref b base off cells vs (fun j c hj => hle _ _ _ (hh j c hj)) ih
 | clo f vs cs hl _ ih => exact .clo f vs cs hl ih
 | ifc t v s _ ih => exact .ifc t v s ih
 | arr vs kd m ns hm hv => exact .arr vs kd m ns hm hv
 | unk v => exact .unk v

theorem Rep.mono {h h' : Hp} (hle : HLe h h') {ρ : Nat → Loc} {v : Value} {s : SV} (r : Rep h ρ v s) : Rep h' ρ v s := by
 induction r with
 | pure v s hp => exact .pure v s (hp.mono hle)
 | agg vs cs hl _ ih => exact .agg vs cs hl ih
 | tup vs cs hl _ ih => exact .tup vs cs hl ih
 | ptr id off => exact .ptr id off
 | bsl id off n => exact .bsl id off n
 | osl0 id p hn => exact .osl0 id p hn
 | osl id hn => exact .osl id hn
 | eptr id e i off hn => exact .eptr id e i off hn
 | osv id l hh c p h0 h1 h2 hc hp => exact .osv id l hh c p h0 h1 h2 hc hp
 | omp id => exact .omp id
 | aptr id i => exact .aptr id i
 | asl id l hh cap => exact .asl id l hh cap

def Zbx : SV → Bool
 | .agg _ | .tup _ | .gd _ _ _ => false
 | _ => true

theorem Zj7 {g : SV → SV} {s : SV} (hs : Zbx s = true) : hmap g s = g s := by
 cases s <;> first | rfl | (simp [Zbx] at hs)

theorem Rep.not_gd {h : Hp} {ρ : Nat → Loc} {v : Value} {t : Nat} {b : Bool} {x : SV} (r : Rep h ρ v (.gd t b x)) : False := by
 cases r with
 | pure _ _ hp => cases hp

theorem PRep.turn {h h' : Hp} {ρ' : Nat → Loc} {g : SV → SV} (hg : ∀ v s, Zbx s = true → PRep h v s → Rep h' ρ' v (g s)) {v : Value} {s : SV} (r : PRep h v s) : Rep h' ρ' v (hmap g s) := by
 induction r with
 | agg vs cs hl _ ih =>
  refine .agg vs _ (by rw [Zbw]; exact hl) fun i v c hv hc => ?_; rw [hmapL_getElem?] at hc
  cases hx : cs[i]? with
  | none => simp [hx] at hc
  | some x => simp [hx] at hc; subst hc; exact ih i v x hv hx
 | val v => exact hg _ _ rfl (.val v)
 | empty p cap sz tok ht h1 hn => exact hg _ _ rfl (.empty p cap sz tok ht h1 hn)
 | slice b off cap sz rows tok vs hpos hz hh hr ho ht h1 hle => exact hg _ _ rfl (.slice b off cap sz rows tok vs hpos hz hh hr ho ht h1 hle)
 | ref b base off cells vs hh hr => exact hg _ _ rfl (.ref b base off cells vs hh hr)
 | clo f vs cs hl hc => exact hg _ _ rfl (.clo f vs cs hl hc)
 | ifc t v s hv => exact hg _ _ rfl (.ifc t v s hv)
 | arr vs kd m ns hm hv => exact hg _ _ rfl (.arr vs kd m ns hm hv)
 | unk v => exact hg _ _ rfl (.unk v)

theorem Rep.turn {h h' : Hp} {ρ ρ' : Nat → Loc} {g : SV → SV} (hg : ∀ v s, Zbx s = true → Rep h ρ v s → Rep h' ρ' v (g s)) {v : Value} {s : SV} (r : Rep h ρ v s) : Rep h' ρ' v (hmap g s) := by
 induction r with
 | pure v s hp => exact hp.turn (fun v s hs r => hg v s hs (.pure _ _ r))
 | agg vs cs hl _ ih =>
  refine .agg vs _ (by rw [Zbw]; exact hl) fun i v c hv hc => ?_; rw [hmapL_getElem?] at hc
  cases hx : cs[i]? with
  | none => simp [hx] at hc
  | some x => simp [hx] at hc; subst hc; exact ih i v x hv hx
 | tup vs cs hl _ ih =>
  refine .tup vs _ (by rw [Zbw]; exact hl) fun i v c hv hc => ?_; rw [hmapL_getElem?] at hc
  cases hx : cs[i]? with
  | none => simp [hx] at hc
  | some x => simp [hx] at hc; subst hc; exact ih i v x hv hx
 | ptr id off => exact hg _ _ rfl (.ptr id off)
 | bsl id off n => exact hg _ _ rfl (.bsl id off n)
 | osl0 id p hn => exact hg _ _ rfl (.osl0 id p hn)
 | osl id hn => exact hg _ _ rfl (.osl id hn)
 | eptr id e i off hn => exact hg _ _ rfl (.eptr id e i off hn)
 | osv id l hh c p h0 h1 h2 hc hp => exact hg _ _ rfl (.osv id l hh c p h0 h1 h2 hc hp)
 | omp id => exact hg _ _ rfl (.omp id)
 | aptr id i => exact hg _ _ rfl (.aptr id i)
 | asl id l hh cap => exact hg _ _ rfl (.asl id l hh cap)

theorem Zrl {h : Hp} {v : Value} {s : SV} (n : Nat) (hs : Zbx s = true) (r : PRep h v s) : killG n s = s := by
 cases r <;> first | rfl | (simp [Zbx] at hs)

theorem Rep.kill (n : Nat) {h h' : Hp} (hle : HLe h h') {ρ ρ' : Nat → Loc} (hρ : ∀ i, i ≠ n → ρ' i = ρ i) {v : Value} {s : SV} (r : Rep h ρ v s) : Rep h' ρ' v (hmap (killG n) s) := by
 refine r.turn fun v s hs r => ?_; have unk : Rep h' ρ' v .unk := .pure _ _ (.unk _)
 cases r with
 | pure _ _ hp => rw [Zrl n hs hp]; exact .pure _ _ (hp.mono hle)
 | agg => simp [Zbx] at hs
 | tup => simp [Zbx] at hs
 | ptr id off =>
  by_cases h : id = n
  ·subst h; simp only [killG, Nat.beq_refl, cond_true]; exact unk
  ·simp only [killG, Zaq h, cond_false]; rw [← hρ id h]; exact .ptr id off
 | bsl id off k =>
  by_cases h : id = n
  ·subst h; simp only [killG, Nat.beq_refl, cond_true]; exact unk
  ·simp only [killG, Zaq h, cond_false]; rw [← hρ id h]; exact .bsl id off k
 | osl0 id p hn =>
  by_cases h : id = n
  ·subst h; simp only [killG, Nat.beq_refl, cond_true]; exact unk
  ·simp only [killG, Zaq h, cond_false]; exact .osl0 id p (by rw [hρ id h]; exact hn)
 | osl id hn =>
  by_cases h : id = n
  ·subst h; simp only [killG, Nat.beq_refl, cond_true]; exact unk
  ·simp only [killG, Zaq h, cond_false]; rw [← hρ id h] at hn ⊢; exact .osl id hn
 | eptr id e i off hn =>
  by_cases h : id = n
  ·subst h; simp only [killG, Nat.beq_refl, cond_true]; exact unk
  ·simp only [killG, Zaq h, cond_false]; rw [← hρ id h] at hn ⊢; exact .eptr id e i off hn
 | osv id l hh c p h0 h1 h2 hc hp =>
  by_cases h : id = n
  ·subst h; simp only [killG, Nat.beq_refl, cond_true]; exact unk
  ·simp only [killG, Zaq h, cond_false]; exact .osv id l hh c p h0 h1 h2 (by rw [hρ id h]; exact hc) (by rw [hρ id h]; exact hp)
 | omp id =>
  by_cases h : id = n
  ·subst h; simp only [killG, Nat.beq_refl, cond_true]; exact unk
  ·simp only [killG, Zaq h, cond_false]; rw [← hρ id h]; exact .omp id
 | aptr id i =>
  by_cases h : id = n
  ·subst h; simp only [killG, Nat.beq_refl, cond_true]; exact unk
  ·simp only [killG, Zaq h, cond_false]; rw [← hρ id h]; exact .aptr id i
 | asl id l hh cap =>
  by_cases h : id = n
  ·subst h; simp only [killG, Nat.beq_refl, cond_true]; exact unk
  ·simp only [killG, Zaq h, cond_false]; rw [← hρ id h]; exact .asl id l hh cap

theorem PRep.tok0 {h : Hp} {v : Value} {sz : Nat} {rows : List (List SV)} {tok : Nat} (r : PRep h v (.slice sz rows tok)) : PRep h v (.slice sz rows 0) := by
 cases r with
 | empty p cap _ _ ht h1 hn => exact .empty p cap sz 0 (by omega) (by omega) hn
 | slice b off cap _ _ _ vs hpos hz hh hr ho ht h1 hle => exact .slice b off cap sz rows 0 vs hpos hz hh hr ho (by omega) (by omega) hle

theorem PRep.fix {h : Hp} {v : Value} {sz sz' : Nat} {rows : List (List SV)} {tok : Nat} (r : PRep h v (.slice sz' rows tok)) (hz : sz' = sz ∨ sz' = 0) : PRep h v (.slice sz rows tok) := by
 rcases hz with rfl | rfl
 ·exact r
 ·cases r with
  | empty p cap _ _ ht h1 hn => exact .empty p cap _ _ ht h1 hn
  | slice _ _ _ _ _ _ _ hpos => exact absurd hpos (Nat.lt_irrefl 0)

theorem HSub.lt {h : Hp} {w : World} {b o : Nat} {v : Value} (hs : HSub h w) (e : h b o = some v) : b < w.heap.size := by
 have := hs b o v e; unfold World.cell? at this; simp only [] at this
 rcases Nat.lt_or_ge b w.heap.size with h' | h'
 ·exact h'
 ·rw [Array.getElem?_eq_none h'] at this; cases this


theorem TRep.of_rep {h : Hp} {ρ : Nat → Loc} {tmps : Array Value} {v : Value} {s : SV} (hs : ∀ t w x, s ≠ .gd t w x) (r : Rep h ρ v s) : TRep h ρ tmps v s := by
 cases s <;> first | exact r | exact absurd rfl (hs _ _ _)

theorem TRep.of_rep' {h : Hp} {ρ : Nat → Loc} {tm : Array Value} {v : Value} {s : SV} (r : Rep h ρ v s) : TRep h ρ tm v s :=
 .of_rep (fun t w x e => by subst e; exact r.not_gd) r

theorem TRep.rep_unk {h : Hp} {ρ : Nat → Loc} (tmps : Array Value) (v : Value) : TRep h ρ tmps v .unk := Rep.pure _ _ (.unk _)

theorem TRep.carry {h h' : Hp} {ρ ρ' : Nat → Loc} {tm tm' : Array Value} {v : Value} {s s' : SV}
  (hg : ∀ t w x, s = .gd t w x → s' = .unk ∨ ∃ x', s' = .gd t w x' ∧ tm'.getD t undef = tm.getD t undef ∧ (Rep h ρ v x → Rep h' ρ' v x'))
  (hr : (∀ t w x, s ≠ .gd t w x) → (∀ t w x, s' ≠ .gd t w x) ∧ (Rep h ρ v s → Rep h' ρ' v s')) (r : TRep h ρ tm v s) : TRep h' ρ' tm' v s' := by
 by_cases hs : ∃ t w x, s = .gd t w x
 ·obtain ⟨t, w, x, rfl⟩ := hs
  rcases hg t w x rfl with rfl | ⟨x', rfl, ht, hx⟩
  ·exact .rep_unk _ _
  ·simp only [TRep] at r ⊢; rw [ht]; exact r.elim (fun ⟨a, b⟩ => Or.inl ⟨a, hx b⟩) Or.inr
 ·have hn : ∀ t w x, s ≠ .gd t w x := fun t w x e => hs ⟨t, w, x, e⟩; obtain ⟨hn', hx⟩ := hr hn; refine .of_rep hn' (hx ?_)
  cases s <;> first | exact r | exact absurd rfl (hn _ _ _)

theorem TRep.turn {h h' : Hp} {ρ ρ' : Nat → Loc} {tm : Array Value} {v : Value} {s : SV} {g : SV → SV} (hg : ∀ s, Rep h ρ v s → Rep h' ρ' v (hmap g s)) (r : TRep h ρ tm v s) : TRep h' ρ' tm v (hmap g s) := by
 by_cases hs : ∃ t w x, s = .gd t w x
 ·obtain ⟨t, w, x, rfl⟩ := hs; simp only [TRep, hmap] at r ⊢; exact r.elim (fun ⟨a, b⟩ => Or.inl ⟨a, hg x b⟩) Or.inr
 ·have hn : ∀ t w x, s ≠ .gd t w x := fun t w x e => hs ⟨t, w, x, e⟩; refine TRep.of_rep' (hg s ?_)
  cases s <;> first | exact r | exact absurd rfl (hn _ _ _)

theorem TRep.mono {h h' : Hp} {ρ : Nat → Loc} {tm : Array Value} {v : Value} {s : SV} (hle : HLe h h') (r : TRep h ρ tm v s) : TRep h' ρ tm v s :=
 r.carry (fun t w x e => .inr ⟨x, e, rfl, fun r => r.mono hle⟩) (fun hn => ⟨hn, fun r => r.mono hle⟩)

theorem Znv {d : Nat} {s : SV} (hs : ∀ t w x, s ≠ .gd t w x) : Zim d s = s := by
 cases s <;> first | rfl | exact absurd rfl (hs _ _ _)

theorem Zgf (d : Nat) (w : Bool) (x : SV) : Zim d (.gd d w x) = .unk := by simp [Zim]
theorem Zih {d t : Nat} (h : d ≠ t) (w : Bool) (x : SV) : Zim d (.gd t w x) = .gd t w x := by simp [Zim, Zaq h]

theorem getD_set_ne' {tm : Array Value} {d t : Nat} (v : Value) (h : d ≠ t) : (tm.setIfInBounds d v).getD t undef = tm.getD t undef := by
 simp [Array.getElem?_setIfInBounds_ne h]

def upd (ρ : Nat → Loc) (id : Nat) (l : Loc) : Nat → Loc := fun i => if i = id then l else ρ i

theorem Zad (ρ : Nat → Loc) (id : Nat) (l : Loc) : upd ρ id l id = l := by simp [upd]
theorem Zii (ρ : Nat → Loc) {id i : Nat} (l : Loc) (h : i ≠ id) : upd ρ id l i = ρ i := by simp [upd, h]

section
variable {X : Cx} {h : Hp} {ρ : Nat → Loc} {st : St} {a : Act} {w : World}

theorem FitsAt.put (F : FitsAt X h ρ st a w) (d : Option Nat) {v : Value} {s : SV} (r : TRep h ρ a.tmps v s) : FitsAt X h ρ (st.put d s) (a.put d v) w := by
 cases d with
 | none => exact F
 | some d =>
  refine { F with size := ?_, tm := ?_, df := F.df }
  ·simp [St.put, Act.put, Zfl, Zef, F.size]
  ·intro t s' hs'; simp only [St.put, Zfl, Act.put] at hs' ⊢; rw [List.getElem?_set] at hs'; by_cases hdt : d = t
   ·subst hdt; simp only [if_true] at hs'
    split at hs'
    ·rename_i hlt
     cases hs'
     have hlt' : d < a.tmps.size := (by rw [F.size]; rwa [Zef] at hlt); have hv : (a.tmps.setIfInBounds d v).getD d undef = v := (by simp [hlt']); rw [hv]; refine r.carry (fun t w x e => ?_) (fun hn => ?_)
     ·subst e; by_cases hd : d = t
      ·subst hd; exact .inl (Zgf _ _ _)
      ·exact .inr ⟨x, Zih hd _ _, getD_set_ne' _ hd, id⟩
     ·rw [Znv hn]; exact ⟨hn, id⟩
    ·cases hs'
   ·simp only [hdt, if_false] at hs'; rw [ungdAll_getElem?] at hs'
    cases hx : st.tmps[t]? with
    | none => simp [hx] at hs'
    | some x =>
     simp [hx] at hs'; subst hs'; rw [getD_set_ne' _ hdt]; refine (F.tm t x hx).carry (fun t' w' y e => ?_) (fun hn => ?_)
     ·subst e; by_cases hd : d = t'
      ·subst hd; exact .inl (Zgf _ _ _)
      ·exact .inr ⟨y, Zih hd _ _, getD_set_ne' _ hd, id⟩
     ·rw [Znv hn]; exact ⟨hn, id⟩

theorem OwnOK.mono {h' : Hp} {w' : World} {l : Loc} {sz : Nat} {rows : List (List SV)} (r : OwnOK h w l sz rows) (hle : HLe h h') (hb : w'.heap[l.blk]? = w.heap[l.blk]?)
  (hno : ∀ o, h l.blk o = none → h' l.blk o = none) : OwnOK h' w' l sz rows := by
 obtain ⟨cs, t, fz, hc, hs, hf, hv⟩ := r.hblk
 exact { r with hblk := ⟨cs, t, fz, by rw [hb]; exact hc, hs, hf, fun i r' j c h1 h2 => by
  obtain ⟨v, e1, e2, e3⟩ := hv i r' j c h1 h2; exact ⟨v, e1, e2.mono hle, e3⟩⟩, hh := fun o => hno o (r.hh o), hfz := fun cs t fz e => r.hfz cs t fz (by rw [← hb]; exact e), hcm := r.hcm }

theorem ObOK.turn {h' : Hp} {ρ' : Nat → Loc} {w' : World} {id : Nat} {o : Ob} {g : SV → SV} (hrep : ∀ v s, Rep h ρ v s → Rep h' ρ' v (hmap g s)) (hle : HLe h h') (hρ : ρ' id = ρ id)
  (hb : (ρ id).none = false → w'.heap[(ρ id).blk]? = w.heap[(ρ id).blk]?) (hh : (ρ id).none = false → ∀ x, h (ρ id).blk x = none → h' (ρ id).blk x = none)
  (r : ObOK h ρ w id o) : ObOK h' ρ' w' id (Zd5 g o) := by
 cases o with
 | box cells =>
  obtain ⟨hn, ⟨cs, t, hc, hsz, hcell⟩, hno⟩ := r; refine ⟨by rw [hρ]; exact hn, ⟨cs, t, by rw [hρ, hb hn]; exact hc, by rw [Zbw]; exact hsz, fun i v c hv hc => ?_⟩, fun x => by rw [hρ]; exact hh hn x (hno x)⟩; rw [hmapL_getElem?] at hc
  cases hx : cells[i]? with
  | none => simp [hx] at hc
  | some y => simp [hx] at hc; subst hc; obtain ⟨p, q⟩ := hcell i v y hv hx; exact ⟨hrep _ _ p, q⟩
 | own sz rows =>
  rcases r with ⟨hn, e⟩ | ⟨hn, r⟩
  ·exact .inl ⟨by rw [hρ]; exact hn, e⟩
  ·refine .inr ⟨by rw [hρ]; exact hn, ?_⟩; rw [hρ]; exact r.mono hle (hb hn) (hh hn)
 | mp es => obtain ⟨hn, ⟨ents, cl, hc, hm⟩, hno⟩ := r; exact ⟨by rw [hρ]; exact hn, ⟨ents, cl, by rw [hρ, hb hn]; exact hc, hm⟩, fun x => by rw [hρ]; exact hh hn x (hno x)⟩
 | arr kd m ns => obtain ⟨hn, ⟨cs, t, hc, hm⟩, hno⟩ := r; exact ⟨by rw [hρ]; exact hn, ⟨cs, t, by rw [hρ, hb hn]; exact hc, hm⟩, fun x => by rw [hρ]; exact hh hn x (hno x)⟩

mutual
theorem Zow : ∀ (s : SV), hmap (fun s => s) s = s
 | .agg cs => by simp [hmap, Zi1 cs]
 | .tup cs => by simp [hmap, Zi1 cs]
 | .gd t w v => by simp [hmap, Zow v]
 | .val _ | .slice .. | .mapv _ | .ref .. | .clo .. | .ifc .. | .ptr .. | .bsl .. | .osl _ | .eptr .. | .osv .. | .omp _ | .arr .. | .aptr .. | .asl .. | .unk => by simp [hmap]
theorem Zi1 : ∀ (l : List SV), hmapL (fun s => s) l = l
 | [] => rfl
 | c :: cs => by simp [hmapL, Zow c, Zi1 cs]
end

theorem Zsq (o : Ob) : Zd5 (fun s => s) o = o := by cases o <;> simp [Zd5, Zi1]

theorem ObOK.carry {h' : Hp} {w' : World} {id : Nat} {o : Ob} (hle : HLe h h')
  (hb : (ρ id).none = false → w'.heap[(ρ id).blk]? = w.heap[(ρ id).blk]?) (hh : (ρ id).none = false → ∀ x, h (ρ id).blk x = none → h' (ρ id).blk x = none)
  (r : ObOK h ρ w id o) : ObOK h' ρ w' id o := by
 have := r.turn (ρ' := ρ) (g := fun s => s) (fun v s q => by rw [Zow]; exact q.mono hle) hle rfl hb hh; rwa [Zsq] at this

theorem ObOK.blk_lt {id : Nat} {o : Ob} (r : ObOK h ρ w id o) (hn : (ρ id).none = false) : (ρ id).blk < w.heap.size := by
 have : ∀ x, w.heap[(ρ id).blk]? = some x → (ρ id).blk < w.heap.size := fun x hx => (Array.getElem?_eq_some_iff.1 hx).1
 cases o with
 | box cells => obtain ⟨_, ⟨cs, t, hc, _⟩, _⟩ := r; exact this _ hc
 | own sz rows =>
  rcases r with ⟨e, _⟩ | ⟨_, r⟩
  ·rw [e] at hn; cases hn
  ·obtain ⟨cs, t, fz, hc, _⟩ := r.hblk; exact this _ hc
 | mp es => obtain ⟨_, ⟨ents, cl, hc, _⟩, _⟩ := r; exact this _ hc
 | arr kd m ns => obtain ⟨_, ⟨cs, t, hc, _⟩, _⟩ := r; exact this _ hc

theorem ObOK.hno {id : Nat} {o : Ob} (r : ObOK h ρ w id o) (hn : (ρ id).none = false) : ∀ x, h (ρ id).blk x = none := by
 cases o with
 | box cells => exact r.2.2
 | own sz rows =>
  rcases r with ⟨e, _⟩ | ⟨_, r⟩
  ·rw [e] at hn; cases hn
  ·exact r.hh
 | mp es => exact r.2.2
 | arr kd m ns => exact r.2.2

theorem Zeq {w' : World} (hs : HSub h w) (hk : ∀ b, b < w.heap.size → w'.heap[b]? = w.heap[b]?) : HSub h w' := fun b o v e => by
 have := hs b o v e; have hlt := hs.lt e; unfold World.cell? at this ⊢; simp only [] at this ⊢; rw [hk b hlt]; exact this

theorem Gl.le {h h' : Hp} {w : World} (g : Gl h w) (hle : HLe h h') : Gl h' w :=
 ⟨fun p hp i c e => by
  obtain ⟨v, h1, h2⟩ := g.cells p hp i c e
  exact ⟨v, hle _ _ _ h1, h2.mono hle⟩, g.size⟩

theorem Gl.off {h : Hp} {w : World} (g : Gl h w) {objs : List (Nat × Ob)} {ρ : Nat → Loc} (hn : ∀ i, live objs ρ i → ∀ o, h (ρ i).blk o = none) : ∀ p ∈ Zbz, ¬ Gv objs ρ p.1 := by
 rintro p hp ⟨i, hi, e⟩; obtain ⟨hpos, _⟩ := g.size p hp; obtain ⟨v, h1, _⟩ := g.cells p hp 0 _ (List.getElem?_eq_getElem hpos); rw [← e, hn i hi 0] at h1
 cases h1

theorem ObOK.hnone {h : Hp} {ρ : Nat → Loc} {w : World} {id : Nat} {o : Ob} (k : ObOK h ρ w id o) (hn : (ρ id).none = false) : ∀ x, h (ρ id).blk x = none := by
 cases o with
 | box cells => exact k.2.2
 | own sz rows =>
  rcases k with ⟨h1, _⟩ | ⟨_, h2⟩
  ·rw [h1] at hn; cases hn
  ·exact h2.hh
 | mp es => exact k.2.2
 | arr kd m ns => exact k.2.2

theorem FitsAt.glob (F : FitsAt X h ρ st a w) : Gl h w := by
 refine ⟨(F.gl.1.le F.mono).cells, fun p hp => ?_⟩; obtain ⟨h1, cs, t, fz, h2, h3⟩ := F.gl.1.size p hp; refine ⟨h1, cs, t, fz, ?_, h3⟩
 rw [F.kp.block p.1 (by
  have := Array.getElem?_eq_some_iff.1 h2
  exact this.1) (F.gl.2 p hp)]
 exact h2

theorem FitsAt.grow {h' : Hp} {w' : World} (F : FitsAt X h ρ st a w) (hle : HLe h h') (hk : ∀ b, b < w.heap.size → w'.heap[b]? = w.heap[b]?)
  (hold : ∀ b, b < w.heap.size → ∀ o, h b o = none → h' b o = none) (hsub : HSub h' w') (hkp : Keeps X.G X.w w') : FitsAt X h' ρ st a w' := by
 have lt := fun id o ho hn => ObOK.blk_lt (F.obj id o ho) hn; refine { F with tm := fun t s hs => (F.tm t s hs).mono hle, sub := hsub, obj := fun id o ho => ?_, mono := F.mono.trans hle, ext := fun b hb hg o e => ?_, kp := hkp }
 ·exact (F.obj id o ho).carry hle (fun hn => hk _ (lt id o ho hn)) (fun hn x => hold _ (lt id o ho hn) x)
 ·exact hold b (Nat.lt_of_lt_of_le hb F.kp.size) o (F.ext b hb hg o e)

theorem FitsAt.world {w' : World} (F : FitsAt X h ρ st a w) (hk : ∀ b, b < w.heap.size → w'.heap[b]? = w.heap[b]?) (hkp : Keeps X.G X.w w') : FitsAt X h ρ st a w' :=
 F.grow (HLe.refl h) hk (fun _ _ _ e => e) (Zeq F.sub hk) hkp

theorem FitsAt.turn {h' : Hp} {ρ' : Nat → Loc} {w' : World} (F : FitsAt X h ρ st a w) (g : SV → SV) (objs' : List (Nat × Ob)) (hrep : ∀ v s, Rep h ρ v s → Rep h' ρ' v (hmap g s))
  (hobj : ∀ id o, oget objs' id = some o → ObOK h' ρ' w' id o) (hlive : ∀ i, live objs' ρ' i → live st.objs ρ i ∧ (ρ' i).blk = (ρ i).blk)
  (hsub : HSub h' w') (hle : HLe h h') (hext : ∀ b, b < X.w.heap.size → ¬ X.G b → ∀ o, h b o = none → h' b o = none) (hkp : Keeps X.G X.w w') (hpin : ∀ i, idOK i = false → ρ' i = ρ i) :
  FitsAt X h' ρ' { tmps := hmapL g st.tmps, objs := objs' } a w' where
 size := by simp [Zbw, F.size]
 tm := fun t s hs => by
  simp only [hmapL_getElem?] at hs
  cases hx : st.tmps[t]? with
  | none => simp [hx] at hs
  | some x => simp [hx] at hs; subst hs; exact (F.tm t x hx).turn (fun s r => hrep _ s r)
 df := F.df
 sub := hsub
 obj := hobj
 inj := fun i j hi hj hij => by rw [(hlive i hi).2, (hlive j hj).2]; exact F.inj i j (hlive i hi).1 (hlive j hj).1 hij
 own := fun i hi => by rw [(hlive i hi).2]; exact F.own i (hlive i hi).1
 mono := F.mono.trans hle
 ext := fun b hb hg o e => hext b hb hg o (F.ext b hb hg o e)
 kp := hkp
 pin := fun i l e => ⟨by rw [hpin i (F.pin i l e).2]; exact (F.pin i l e).1, (F.pin i l e).2⟩
 gl := F.gl

theorem Zaj {g : SV → SV} {xs : List (Nat × Ob)} {m : Nat} {o : Ob} (e : oget (hmapO g xs) m = some o) : ∃ o', oget xs m = some o' ∧ o = Zd5 g o' := by
 rw [Zf3] at e
 cases h : oget xs m with
 | none => simp [h] at e
 | some o' => simp [h] at e; exact ⟨o', rfl, e.symm⟩

theorem Zai {xs : List (Nat × Ob)} {n m : Nat} {o : Ob} (e : oget (odel xs n) m = some o) : m ≠ n ∧ oget xs m = some o := by
 rw [Znu] at e
 split at e
 ·cases e
 ·rename_i h; exact ⟨fun x => h x.symm, e⟩

theorem FitsAt.drop (F : FitsAt X h ρ st a w) (id : Nat) {ρ' : Nat → Loc} (hρ : ∀ i, i ≠ id → ρ' i = ρ i) (hid : idOK id = true ∨ ρ' id = ρ id) : FitsAt X h ρ' (st.drop id) a w := by
 refine F.turn (killG id) _ (fun v s r => r.kill id (HLe.refl h) hρ) (fun i o e => ?_) (fun i hi => ?_) F.sub (HLe.refl h) (fun _ _ _ _ e => e) F.kp (fun i hi => ?_)
 ·obtain ⟨o', e', rfl⟩ := Zaj e; obtain ⟨hne, e''⟩ := Zai e'; exact (F.obj i o' e'').turn (fun v s r => r.kill id (HLe.refl h) hρ) (HLe.refl h) (hρ i hne) (fun _ => rfl) (fun _ _ e => e)
 ·obtain ⟨⟨o, e⟩, hn⟩ := hi; obtain ⟨o', e', rfl⟩ := Zaj e; obtain ⟨hne, e''⟩ := Zai e'; rw [hρ i hne] at hn ⊢; exact ⟨⟨⟨o', e''⟩, hn⟩, rfl⟩
 ·by_cases e : i = id
  ·subst e
   rcases hid with h | h
   ·rw [hi] at h; cases h
   ·exact h
  ·exact hρ i e

theorem FitsAt.add (F : FitsAt X h ρ st a w) (id : Nat) (o : Ob) (hno : oget st.objs id = none) (ho : ObOK h ρ w id o)
  (hown : (ρ id).none = false → X.w.heap.size ≤ (ρ id).blk ∨ X.G (ρ id).blk) (hnew : (ρ id).none = false → ∀ i, live st.objs ρ i → (ρ i).blk ≠ (ρ id).blk) :
  FitsAt X h ρ { st with objs := (id, o) :: st.objs } a w := by
 have hcase : ∀ i, live ((id, o) :: st.objs) ρ i → i = id ∨ live st.objs ρ i := by
  rintro i ⟨⟨x, hx⟩, hn⟩; rw [Zbp] at hx
  split at hx
  ·rename_i e; exact .inl e.symm
  ·exact .inr ⟨⟨x, hx⟩, hn⟩
 refine { F with obj := fun i x hx => ?_, inj := fun i j hi hj hij => ?_, own := fun i hi => ?_ }
 ·simp only [Zbp] at hx
  split at hx
  ·rename_i e; subst e; cases hx; exact ho
  ·exact F.obj i x hx
 ·rcases hcase i hi with rfl | hi'
  ·rcases hcase j hj with rfl | hj'
   ·exact absurd rfl hij
   ·exact Ne.symm (hnew hi.2 j hj')
  ·rcases hcase j hj with rfl | hj'
   ·exact hnew hj.2 i hi'
   ·exact F.inj i j hi' hj' hij
 ·rcases hcase i hi with rfl | hi'
  ·exact hown hi.2
  ·exact F.own i hi'

theorem Zkv (st : St) (id : Nat) : oget (st.drop id).objs id = none := by simp [St.drop, Zf3, Znu]

theorem FitsAt.bind (F : FitsAt X h ρ st a w) (id : Nat) (hid : idOK id = true) (o : Ob) (l : Loc) (ho : ObOK h (upd ρ id l) w id (Zd5 (killG id) o))
  (hown : l.none = false → X.w.heap.size ≤ l.blk ∨ X.G l.blk) (hnew : l.none = false → ∀ i, i ≠ id → live st.objs ρ i → (ρ i).blk ≠ l.blk) :
  FitsAt X h (upd ρ id l) (st.bind id o) a w := by
 have F1 := F.drop id (ρ' := upd ρ id l) (fun i hi => Zii ρ l hi) (.inl hid); refine F1.add id _ (Zkv st id) ho (by rw [Zad]; exact hown) (fun hn i hi => ?_); rw [Zad] at hn ⊢; obtain ⟨⟨o', e⟩, hn'⟩ := hi; obtain ⟨o'', e', rfl⟩ := Zaj e; obtain ⟨hne, e''⟩ := Zai e'; rw [Zii ρ l hne] at hn' ⊢; exact hnew hn i hne ⟨⟨o'', e''⟩, hn'⟩

theorem FitsAt.setOb (F : FitsAt X h ρ st a w) (id : Nat) (o o' : Ob) (w' : World) (ho : oget st.objs id = some o) (hn : (ρ id).none = false) (ho' : ObOK h ρ w' id o')
  (hoth : ∀ b, b ≠ (ρ id).blk → w'.heap[b]? = w.heap[b]?) (hkp : Keeps (fun b => b = (ρ id).blk) w w') : FitsAt X h ρ { st with objs := oput st.objs id o' } a w' := by
 have hlv : live st.objs ρ id := ⟨⟨_, ho⟩, hn⟩
 have hno := (F.obj id _ ho).hno hn
 have hlive : ∀ i, live (oput st.objs id o') ρ i → live st.objs ρ i := by
  rintro i ⟨⟨x, hx⟩, hni⟩; rw [Zhi] at hx
  split at hx
  ·rename_i e; subst e; exact hlv
  ·exact ⟨⟨x, hx⟩, hni⟩
 refine { F with tm := F.tm, sub := fun b o v e => ?_, obj := fun i x hi => ?_, inj := fun i j hi hj => F.inj i j (hlive i hi) (hlive j hj), own := fun i hi => F.own i (hlive i hi), kp := ?_ }
 ·have hb : b ≠ (ρ id).blk := fun hb => by subst hb; rw [hno o] at e; cases e
  have := F.sub b o v e; unfold World.cell? at this ⊢; simp only [] at this ⊢; rw [hoth b hb]; exact this
 ·simp only [Zhi] at hi; by_cases hii : id = i
  ·subst hii; rw [if_pos rfl, ho] at hi
   cases hi
   exact ho'
  ·rw [if_neg hii] at hi; refine (F.obj i x hi).carry (HLe.refl h) (fun hni => hoth _ ?_) (fun _ _ e => e); exact F.inj i id ⟨⟨x, hi⟩, hni⟩ hlv (Ne.symm hii)
 ·refine F.kp.step hkp (fun k hk => ?_); subst hk; exact F.own id hlv

end

theorem Zb0 (b off n : Nat) : (⟨b, off, none⟩ : Addr).add n = ⟨b, off + n, none⟩ := by
 unfold Addr.add; split <;> simp_all

theorem run_typeInfo' {P : Program} (w : World) {t : TypeId} {i : TypeInfo} (h : P.info? t = some i) : (typeInfo t).run P w = .ok i w := by
 simp [typeInfo, h]

theorem Zml {P : Program} {t : TypeId} {n : Nat} (h : szT P t = some n) : ∃ i, P.info? t = some i ∧ i.size = n := by
 unfold szT at h
 cases hi : P.info? t with
 | none => simp [hi] at h
 | some i => simp [hi] at h; exact ⟨i, rfl, h⟩

theorem run_sizeOf' {P : Program} (w : World) {t : TypeId} {n : Nat} (h : szT P t = some n) : (sizeOf t).run P w = .ok n w := by
 obtain ⟨i, hi, rfl⟩ := Zml h; simp [sizeOf, run_typeInfo' w hi]

theorem run_isAgg' {P : Program} (w : World) {t : TypeId} {d : TypeDesc} (h : P.underlying t = some d) : (isAgg t).run P w = .ok (Zbb P t) w := by
 simp only [isAgg, Sem.run_bind, run_underlying h, Result.andThen_ok, Zbb, h]
 cases d <;> rfl

section
variable {X : Cx} {h : Hp} {ρ : Nat → Loc} {st : St} {a : Act} {w : World} {P : Program}

theorem TRep.out {tm : Array Value} {v : Value} {s : SV} (hn : ∀ t w x, s ≠ .gd t w x) (r : TRep h ρ tm v s) : Rep h ρ v s := by
 cases s <;> first | exact r | exact absurd rfl (hn _ _ _)

theorem Zmm {gs : List (Nat × Bool)} {s : SV} (hn : ∀ t w x, s ≠ .gd t w x) : ungd gs s = s := by
 cases s <;> first | rfl | exact absurd rfl (hn _ _ _)

theorem FitsAt.slot (F : FitsAt X h ρ st a w) (gs : List (Nat × Bool)) (hg : ∀ g ∈ gs, a.tmps.getD g.1 undef = .bool g.2) (t : Nat) :
  Rep h ρ (a.tmps.getD t undef) (ungd gs (lget st.tmps t)) := by
 rw [Zco]
 cases hx : st.tmps[t]? with
 | none => exact .pure _ _ (.unk _)
 | some s =>
  have r := F.tm t s hx; simp only [Option.getD_some]; by_cases hs : ∃ t w x, s = .gd t w x
  ·obtain ⟨t', w', x, rfl⟩ := hs; simp only [ungd]
   cases hb : gs.any (fun g => Nat.beq g.1 t' && (g.2 == w')) with
   | false => exact .pure _ _ (.unk _)
   | true =>
    obtain ⟨g, hgm, hgb⟩ := List.any_eq_true.1 hb; simp only [Bool.and_eq_true, beq_iff_eq] at hgb; have e1 : g.1 = t' := Nat.eq_of_beq_eq_true hgb.1; have := hg g hgm; rw [e1, hgb.2] at this
    rcases r with ⟨_, r⟩ | ⟨hne, _⟩
    ·exact r
    ·exact absurd this hne
  ·have hn : ∀ t w x, s ≠ .gd t w x := fun t w x e => hs ⟨t, w, x, e⟩; rw [Zmm hn]; exact r.out hn

theorem FitsAt.global_rep (F : FitsAt X h ρ st a w) (g : Nat) : PRep h (a.eval (.global g)) (Zfn g Zbz) := by
 rcases Zcl g Zbz with e | ⟨cs, hm, e⟩
 ·rw [e]; exact .unk _
 ·rw [e]; have hc := F.gl.1.cells _ hm; refine .ref g 0 0 cs (fun j => (X.h g j).getD undef) (fun j c hj => ?_) (fun j c hj => ?_)
  ·obtain ⟨v, h1, _⟩ := hc j c hj; rw [Nat.zero_add]; simp only [] at h1; rw [h1]; exact F.mono _ _ _ h1
  ·obtain ⟨v, h1, h2⟩ := hc j c hj; simp only [] at h1; rw [h1]; exact h2.mono F.mono

theorem FitsAt.operand (F : FitsAt X h ρ st a w) (gs : List (Nat × Bool)) (hg : ∀ g ∈ gs, a.tmps.getD g.1 undef = .bool g.2) (x : Operand) :
  Rep h ρ (a.eval x) (ungd gs (ev st x)) := by
 cases x with
 | tmp t => exact F.slot gs hg t
 | const v =>
  by_cases h1 : ∃ cs, v = .agg cs
  ·obtain ⟨cs, rfl⟩ := h1; show Rep h ρ (.agg cs) (.agg (cs.toList.map .val)); refine .pure _ _ (.agg cs _ (by simp) fun i v c hv hc => ?_); simp at hc; obtain ⟨x, hx, rfl⟩ := hc; rw [hv] at hx; cases hx; exact .val v
  ·by_cases h2 : v = .slice none 0 0
   ·subst h2; show Rep h ρ (.slice none 0 0) (.slice 0 [] 1); exact .pure _ _ (.empty none 0 0 1 (by omega) (by omega) (by simp))
   ·have : ev st (.const v) = .val v := by
     unfold ev
     split <;> simp_all
    rw [this]; exact .pure _ _ (.val _)
 | global g =>
  have hn : ∀ t w x, Zfn g Zbz ≠ .gd t w x := fun t w x e => by
   rcases Zcl g Zbz with e' | ⟨cs, _, e'⟩ <;> rw [e'] at e <;> cases e
  show Rep h ρ _ (ungd gs (Zfn g Zbz)); rw [Zmm hn]; exact .pure _ _ (F.global_rep g)
 | func f => exact .pure _ _ (.clo f #[] [] rfl (by simp))

def SameB (ob : Option Nat) (w w' : World) : Prop := ∀ b, ob = some b → w'.heap[b]? = w.heap[b]?

theorem SameB.refl (ob : Option Nat) (w : World) : SameB ob w w := fun _ _ => rfl

theorem Zfm {w w' : World} {b o : Nat} {v : Value} (x : w'.heap[b]? = w.heap[b]?) (e : w.cell? ⟨b, o, none⟩ = some v) : w'.cell? ⟨b, o, none⟩ = some v := by
 unfold World.cell? at e ⊢; rw [x]; exact e

def fblk (P : Program) (a : Act) (o : Oper) : Option Nat :=
 match Zb3 P o.op with
 | none => none
 | some x => match a.eval x with
  | .pointer (some ad) => some ad.block
  | .map (some r) => some r
  | .slice (some ad) (_ + 1) _ => some ad.block
  | _ => none

def Zh2 (w : World) (b off : Nat) (vs : List Value) : Prop := ∀ (j : Nat) v, vs[j]? = some v → w.cell? ⟨b, off + j, none⟩ = some v

theorem Zdf {b base off : Nat} {vs : List Value} {cs : List SV} {t : TypeId} {s : SV} (hc : Zh2 w b base vs) (hl : vs.length = cs.length)
  (hr : ∀ (j : Nat) v c, vs[j]? = some v → cs[j]? = some c → Rep h ρ v c) (hp : partN P t off cs = some s) :
  ∃ v, (∀ w' : World, w'.heap[b]? = w.heap[b]? → (loadVar t ⟨b, base + off, none⟩).run P w' = .ok v w') ∧ Rep h ρ v s := by
 unfold partN at hp
 split at hp
 ·cases hp
 ·cases hp
 ·rename_i d n hu hz; simp only [Zbi, Ze2, Ze3, Zco] at hp
  cases hagg : Zbb P t with
  | true =>
   simp only [hagg, cond_true] at hp
   cases hb : Nat.ble (off + n) cs.length with
   | false => simp [hb] at hp
   | true =>
    simp [hb] at hp; subst hp; have hle := Nat.le_of_ble_eq_true hb; refine ⟨.agg ((vs.drop off).take n).toArray, fun w' hx => ?_, ?_⟩
    ·have hlen : ((vs.drop off).take n).length = n := by simp; omega
     have := run_loadCells_list (P := P) w' ⟨b, base + off, none⟩ ((vs.drop off).take n) (fun j v hv => by
      rw [Zb0]; rw [List.getElem?_take] at hv
      split at hv
      ·rw [List.getElem?_drop] at hv; have := Zfm hx (hc (off + j) v hv); rwa [← Nat.add_assoc] at this
      ·cases hv)
     rw [hlen] at this; simp [loadVar, run_isAgg' w' hu, run_sizeOf' w' hz, hagg, this]
    ·refine .agg _ _ (by simp; omega) fun i v c hv hc' => ?_; simp only [List.getElem?_toArray] at hv; rw [List.getElem?_take] at hv hc'
     split at hv
     ·rename_i hlt; rw [if_pos hlt] at hc'; rw [List.getElem?_drop] at hv hc'; exact hr _ v c hv hc'
     ·cases hv
  | false =>
   simp only [hagg, cond_false] at hp
   cases hb : Nat.ble (off + 1) cs.length with
   | false => simp [hb] at hp
   | true =>
    simp [hb] at hp; have hle := Nat.le_of_ble_eq_true hb
    obtain ⟨v, hv⟩ : ∃ v, vs[off]? = some v := ⟨vs[off]'(by omega), List.getElem?_eq_getElem (by omega)⟩
    obtain ⟨c, hcs⟩ : ∃ c, cs[off]? = some c := ⟨cs[off]'(by omega), List.getElem?_eq_getElem (by omega)⟩
    refine ⟨v, fun w' hx => ?_, ?_⟩
    ·simp [loadVar, run_isAgg' w' hu, hagg, Zfm hx (hc off v hv)]
    ·rw [hcs] at hp; simp at hp; subst hp; exact hr off v c hv hcs

theorem ObOK.cells {id : Nat} {cells : List SV} (r : ObOK h ρ w id (.box cells)) : ∃ vs : List Value, Zh2 w (ρ id).blk 0 vs ∧ vs.length = cells.length ∧
  ∀ (j : Nat) v c, vs[j]? = some v → cells[j]? = some c → Rep h ρ v c := by
 obtain ⟨_, ⟨cs, t, hc, hsz, hcell⟩, _⟩ := r; refine ⟨cs.toList, fun j v hv => ?_, by simpa using hsz, fun j v c hv hc' => (hcell j v c (by simpa using hv) hc').1⟩; have : cs[j]? = some v := (by simpa using hv); simp [World.cell?, hc, this]

theorem Zij (F : FitsAt X h ρ st a w) {t : TypeId} {x : SV} {v : Value} {s : SV} (hx : Rep h ρ v x) (hp : Zqh P t x st.objs = some s) :
  ∃ u ad, v = .pointer (some ad) ∧ (∀ w' : World, w'.heap[ad.block]? = w.heap[ad.block]? → (Instr.loadAt t v).run P w' = .ok u w') ∧ Rep h ρ u s := by
 unfold Zqh at hp
 split at hp
 ·rename_i id off
  split at hp
  ·rename_i cs ho
   cases hx with
   | pure _ _ hp' => cases hp'
   | ptr => obtain ⟨vs, hc, hl, hr⟩ := (F.obj id _ ho).cells; obtain ⟨u, hu, r⟩ := Zdf (P := P) hc hl hr hp; refine ⟨u, _, rfl, fun w' hx => ?_, r⟩; have hu := hu w' hx; rw [Nat.zero_add] at hu; simp [Instr.loadAt, Instr.sureAddr, hu]
  ·cases hp
 ·rename_i off cs
  cases hx with
  | pure _ _ hp' =>
   cases hp' with
   | ref b base _ _ vs hh hr =>
    have hget : ∀ j, j < cs.length → ((List.range cs.length).map vs)[j]? = some (vs j) := fun j hj => by simp [hj]
    obtain ⟨u, hu, r⟩ := Zdf (P := P) (w := w) (h := h) (ρ := ρ) (b := b) (base := base) (vs := (List.range cs.length).map vs) (fun j v hv => by
      have hj : j < cs.length := (by have := (List.getElem?_eq_some_iff.1 hv).1; simpa using this); rw [hget j hj] at hv; cases hv
      exact F.sub _ _ _ (hh j _ (List.getElem?_eq_getElem hj))) (by simp) (fun j v c hv hc => by
      have hj : j < cs.length := (List.getElem?_eq_some_iff.1 hc).1; rw [hget j hj] at hv; cases hv
      exact .pure _ _ (hr j c hc)) hp
    refine ⟨u, _, rfl, fun w' hx => ?_, r⟩; simp [Instr.loadAt, Instr.sureAddr, hu w' hx]
 ·cases hp

theorem Znw {t : TypeId} {x : SV} {f : Nat} {v : Value} {s : SV} (hx : Rep h ρ v x) (hp : Zs2 P t x f = some s) :
  ∃ u, (∀ w, (Instr.fieldAt t v f).run P w = .ok u w) ∧ Rep h ρ u s := by
 unfold Zs2 at hp
 split at hp
 ·cases hp
 ·rename_i fd hfd
  split at hp
  ·rename_i m hz
   have hfs : ∃ fs : Array Field, P.underlying t = some (.struct fs) ∧ fs[f]? = some fd := by
    unfold Zmr at hfd
    split at hfd
    ·rename_i fs hu; exact ⟨fs, hu, hfd⟩
    ·cases hfd
   obtain ⟨fs, hu, hf⟩ := hfs
   split at hp
   ·rename_i id off
    cases hp
    cases hx with
    | pure _ _ hp' => cases hp'
    | ptr => exact ⟨.pointer (some ⟨(ρ id).blk, off + fd.offset, none⟩), fun w => by simp [Instr.fieldAt, Instr.sureAddr, run_underlying hu, hf, fieldPlace, run_sizeOf' w hz, Zb0], .ptr _ _⟩
   ·rename_i off cs
    cases hp
    cases hx with
    | pure _ _ hp' =>
     cases hp' with
     | ref b base _ _ vs hh hr => refine ⟨.pointer (some ⟨b, base + (off + fd.offset), none⟩), fun w => by simp [Instr.fieldAt, Instr.sureAddr, run_underlying hu, hf, fieldPlace, run_sizeOf' w hz, Zb0, Nat.add_assoc], ?_⟩; exact .pure _ _ (.ref b base _ cs vs hh hr)
   ·rename_i id e i off
    cases hp
    cases hx with
    | pure _ _ hp' => cases hp'
    | eptr _ _ _ _ hn => exact ⟨.pointer (some ⟨(ρ id).blk, (ρ id).off + i.toNat * (ρ id).sz + (off + fd.offset), none⟩), fun w => by simp [Instr.fieldAt, Instr.sureAddr, run_underlying hu, hf, fieldPlace, run_sizeOf' w hz, Zb0, Nat.add_assoc], .eptr id e i _ hn⟩
   ·cases hp
  ·cases hp

theorem Rep.val_inv {v x : Value} (r : Rep h ρ v (.val x)) : v = x := by
 cases r with
 | pure _ _ hp => cases hp; rfl

theorem Rep.ifc_inv {v : Value} {s : SV} (r : Rep h ρ v s) (hi : isIfc s = true) : (v = .nilIface ∧ Zlm s = true) ∨ ∃ tx vx, v = .iface tx vx ∧ Zlm s = false := by
 cases r with
 | pure _ _ hp =>
  cases hp with
  | val =>
   cases v <;> first | exact .inl ⟨rfl, rfl⟩ | exact .inr ⟨_, _, rfl, rfl⟩ | exact Bool.noConfusion hi
  | ifc t v s _ => exact .inr ⟨_, _, rfl, rfl⟩
  | _ => exact Bool.noConfusion hi
 | _ => exact Bool.noConfusion hi

theorem Rep.slice_inv {v : Value} {sz : Nat} {rows : List (List SV)} {tok : Nat} (r : Rep h ρ v (.slice sz rows tok)) : ∃ b cap, v = .slice b rows.length cap := by
 cases r with
 | pure _ _ hp => cases hp with
  | empty => exact ⟨_, _, rfl⟩
  | slice => exact ⟨_, _, rfl⟩

theorem Rep.aptr_inv {v : Value} {id : Nat} {i : Int} (r : Rep h ρ v (.aptr id i)) : v = .pointer (some ⟨(ρ id).blk, i.toNat, none⟩) := by
 cases r with
 | pure _ _ hp => cases hp
 | aptr => rfl

theorem Rep.asl_inv {v : Value} {id : Nat} {l hh : Int} (r : Rep h ρ v (.asl id l hh)) : ∃ cap, v = .slice (some ⟨(ρ id).blk, l.toNat, none⟩) (hh - l).toNat cap := by
 cases r with
 | pure _ _ hp => cases hp
 | asl _ _ _ cap => exact ⟨cap, rfl⟩

theorem Rep.arr_inv {v : Value} {kd : IntKind} {m : Nat} {ns : List Int} (r : Rep h ρ v (.arr kd m ns)) : ∃ vs : Array Value, v = .agg vs ∧ ns.length = m ∧ vs.toList = ns.map (Value.int kd) := by
 cases r with
 | pure _ _ hp =>
  cases hp with
  | arr vs _ _ _ hm hv => exact ⟨vs, rfl, hm, hv⟩

theorem Rep.bsl_inv {v : Value} {id off n : Nat} (r : Rep h ρ v (.bsl id off n)) : v = .slice (some ⟨(ρ id).blk, off, none⟩) n n := by
 cases r with
 | pure _ _ hp => cases hp
 | bsl => rfl

theorem Rep.tup_inv {v : Value} {cs : List SV} (r : Rep h ρ v (.tup cs)) : ∃ vs : Array Value, v = .tuple vs ∧ vs.size = cs.length ∧ ∀ (i : Nat) u c, vs[i]? = some u → cs[i]? = some c → Rep h ρ u c := by
 cases r with
 | pure _ _ hp => cases hp
 | tup vs cs hl hc => exact ⟨vs, rfl, hl, hc⟩

theorem Zdm (op : BinOp) (t : TypeId) (x y : Operand) (k k' : IntKind) (m n : Int) (P : Program) (w : World) : (eqGuard op t x y (.int k m) (.int k' n)).run P w = .ok () w := by
 unfold eqGuard
 cases op <;> rfl

theorem Zox (op : BinOp) (t : TypeId) (x y : Operand) (k k' : FloatKind) (m n : Nat) (P : Program) (w : World) : (eqGuard op t x y (.float k m) (.float k' n)).run P w = .ok () w := by
 unfold eqGuard
 cases op <;> rfl

theorem Zoy (op : BinOp) (t : TypeId) (x y : Operand) (k k' : FloatKind) (m m2 n n2 : Nat) (P : Program) (w : World) : (eqGuard op t x y (.complex k m m2) (.complex k' n n2)).run P w = .ok () w := by
 unfold eqGuard
 cases op <;> rfl

theorem Zxf (ts : Array TypeId) (t : TypeId) (k : FloatKind) (a b : Nat) : Builtin.real_ ts t #[.complex k a b] = pure (.float k a) := rfl
theorem Zxg (ts : Array TypeId) (t : TypeId) (k : FloatKind) (a b : Nat) : Builtin.imag_ ts t #[.complex k a b] = pure (.float k b) := rfl
theorem Zrm (ts : Array TypeId) (t : TypeId) (k : FloatKind) (a b : Nat) : Builtin.complex_ ts t #[.float k a, .float k b] = pure (.complex k a b) := by
 show (if k = k then _ else _) = _; rw [if_pos rfl]

theorem Zj8 (op : BinOp) (t : TypeId) (x y : Operand) (m n : ByteArray) (P : Program) (w : World) : (eqGuard op t x y (.string m) (.string n)).run P w = .ok () w := by
 unfold eqGuard
 cases op <;> rfl

theorem Zoz {op : BinOp} {k : IntKind} {m n : Int} {r : Value} (t : TypeId) (hr : intOp op k m n = some r) (w : World) : (binOp op t (.int k m) (.int k n)).run P w = .ok r w := by
 cases op <;> simp [intOp] at hr <;> subst hr <;> simp [binOp, Op.intArith, Op.intCmp, Op.intBits, wadd, wsub, wmul, ieq, ine, ilt, ile, igt, ige, wand, wor, wxor]

theorem Zo0 {op : BinOp} {m n : ByteArray} {r : Value} (t : TypeId) (hr : strOp op m n = some r) (w : World) : (binOp op t (.string m) (.string n)).run P w = .ok r w := by
 cases op <;> simp [strOp] at hr <;> subst hr <;> simp [binOp, Op.stringOp, seq, sne, slt, sle, sgt, sge]

theorem Zcs {vs : Array Value} {cs : List SV} {t : TypeId} {off : Nat} {s : SV} (hl : vs.size = cs.length)
  (hr : ∀ (j : Nat) v c, vs[j]? = some v → cs[j]? = some c → Rep h ρ v c) (hp : partN P t off cs = some s) :
  ∃ v, (∀ w, (part t vs off).run P w = .ok v w) ∧ Rep h ρ v s := by
 unfold partN at hp
 split at hp
 ·cases hp
 ·cases hp
 ·rename_i d n hu hz; simp only [Zbi, Ze2, Ze3, Zco] at hp
  cases hagg : Zbb P t with
  | true =>
   simp only [hagg, cond_true] at hp
   cases hb : Nat.ble (off + n) cs.length with
   | false => simp [hb] at hp
   | true =>
    simp [hb] at hp; subst hp; have hle := Nat.le_of_ble_eq_true hb; refine ⟨.agg (vs.extract off (off + n)), fun w => by simp [part, run_isAgg' w hu, run_sizeOf' w hz, hagg], ?_⟩; refine .agg _ _ (by simp; omega) fun i v c hv hc' => ?_; rw [Array.getElem?_extract] at hv; rw [List.getElem?_take] at hc'
    split at hc'
    ·rw [List.getElem?_drop] at hc'
     split at hv
     ·exact hr _ v c hv hc'
     ·cases hv
    ·cases hc'
  | false =>
   simp only [hagg, cond_false] at hp
   cases hb : Nat.ble (off + 1) cs.length with
   | false => simp [hb] at hp
   | true =>
    simp [hb] at hp; have hle := Nat.le_of_ble_eq_true hb
    obtain ⟨v, hv⟩ : ∃ v, vs[off]? = some v := ⟨vs[off]'(by omega), Array.getElem?_eq_getElem (by omega)⟩
    obtain ⟨c, hcs⟩ : ∃ c, cs[off]? = some c := ⟨cs[off]'(by omega), List.getElem?_eq_getElem (by omega)⟩
    refine ⟨v, fun w => by simp [part, run_isAgg' w hu, hagg, hv], ?_⟩; rw [hcs] at hp; simp at hp; subst hp; exact hr off v c hv hcs

theorem Rep.agg_inv' {v : Value} {cs : List SV} (r : Rep h ρ v (.agg cs)) : ∃ vs : Array Value, v = .agg vs ∧ vs.size = cs.length ∧ ∀ (i : Nat) u c, vs[i]? = some u → cs[i]? = some c → Rep h ρ u c := by
 cases r with
 | pure _ _ hp => cases hp with
  | agg vs _ hl hc => exact ⟨vs, rfl, hl, fun i u c hu hc' => .pure _ _ (hc i u c hu hc')⟩
 | agg vs _ hl hc => exact ⟨vs, rfl, hl, hc⟩

theorem Zsr : ∀ (n : Nat) (t : TypeId) (x y : SV) (r : Bool), eqA P n t x y = some r → ∀ (u v : Value), Rep h ρ u x → Rep h ρ v y → ∀ d w, (Op.equalIn (d + n) t u v).run P w = .ok r w := by
 intro n
 induction n with
 | zero => intro t x y r h; cases h
 | succ n ih =>
  intro t x y r he u v hu hv d w; simp only [eqA] at he; rw [show d + (n + 1) = (d + n) + 1 from rfl]
  split at he
  ·rename_i a b ht
   cases he
   rw [hu.val_inv, hv.val_inv]; simp [Op.equalIn, run_underlying ht, beqB]
  ·rename_i k0 k a k' b ht; by_cases hk : k = k'
   ·subst hk; simp at he; subst he; rw [hu.val_inv, hv.val_inv]; simp [Op.equalIn, run_underlying ht, ieq]
   ·simp [hk] at he
  ·rename_i a b ht
   cases he
   rw [hu.val_inv, hv.val_inv, run_equalIn_string w (d + n) t a b ht]; rfl
  ·rename_i fs xs ys ht
   cases hst : P.stoodInHeld t with
   | true => simp [hst] at he
   | false =>
    simp only [hst, cond_false] at he; obtain ⟨us, rfl, hlu, hcu⟩ := hu.agg_inv'; obtain ⟨ws, rfl, hlw, hcw⟩ := hv.agg_inv'; have hfs : P.fieldsOf t = fs := (by simp [Program.fieldsOf, ht]); rw [run_equalIn_struct w (d + n) t us ws (by rw [hfs]; exact ht) hst, hfs]; clear hfs ht; generalize fs.toList = l at he ⊢
    induction l generalizing r with
    | nil => simp at he; subst he; simp [Op.eqFields]
    | cons f l ihl =>
     simp only [List.foldr_cons] at he
     cases hn : (f.name == "_") with
     | true => simp [hn] at he
     | false =>
      simp only [hn, cond_false] at he
      split at he
      ·rename_i p q rest hp hq hrest; rw [Option.map_eq_some_iff] at he; obtain ⟨e, hee, rfl⟩ := he; obtain ⟨pu, h1, r1⟩ := Zcs (P := P) hlu hcu hp; obtain ⟨pw, h2, r2⟩ := Zcs (P := P) hlw hcw hq; have h3 := ih f.type p q e hee pu pw r1 r2 d w; have h1 := h1 w; have h2 := h2 w
       have hne : f.name ≠ "_" := by simpa using hn
       simp only [Op.eqFields, ne_eq, hne, not_false_eq_true, if_true, Sem.run_bind, h1, h2, h3, Result.andThen_ok]
       cases e with
       | false => simp [band]
       | true => simpa [band] using ihl rest hrest
      ·cases he
  ·rename_i m e xs ys ht
   split at he
   ·cases he
   ·rename_i c hc; obtain ⟨i, hi, hic⟩ := Zml hc; obtain ⟨us, rfl, hlu, hcu⟩ := hu.agg_inv'; obtain ⟨ws, rfl, hlw, hcw⟩ := hv.agg_inv'; have hcell : P.cellsOf e = c := (by simp [Program.cellsOf, hi, hic]); rw [run_equalIn_array w (d + n) us ws ht hi, hcell]; clear ht; generalize List.range m = l at he ⊢
    induction l generalizing r with
    | nil => simp at he; subst he; simp [Op.eqItems]
    | cons j l ihl =>
     simp only [List.foldr_cons] at he
     split at he
     ·rename_i p q rest hp hq hrest; rw [Option.map_eq_some_iff] at he; obtain ⟨e', hee, rfl⟩ := he; obtain ⟨pu, h1, r1⟩ := Zcs (P := P) hlu hcu hp; obtain ⟨pw, h2, r2⟩ := Zcs (P := P) hlw hcw hq; have h3 := ih e p q e' hee pu pw r1 r2 d w; have h1 := h1 w; have h2 := h2 w; simp only [Op.eqItems, Sem.run_bind, h1, h2, h3, Result.andThen_ok]
      cases e' with
      | false => simp [band]
      | true => simpa [band] using ihl rest hrest
     ·cases he
  ·cases he

theorem Zlj {op : BinOp} {t : TypeId} {x y s : SV} (ox oy : Operand) {u v : Value} (hxy : (∃ a b, x = .agg a ∧ y = .agg b) ∨ (∃ a b, x = .val (.bool a) ∧ y = .val (.bool b))) (hu : Rep h ρ u x) (hv : Rep h ρ v y) (he : eqOp P op t x y = some s) :
  ∃ r, (∀ w, (do eqGuard op t ox oy u v; binOp op t u v : Sem Value).run P w = .ok r w) ∧ Rep h ρ r s := by
 have guard : P.eqGuardType P.depth t = false → ∀ w, (eqGuard op t ox oy u v).run P w = .ok () w := by
  intro hg w
  rcases hxy with ⟨a, b, rfl, rfl⟩ | ⟨a, b, rfl, rfl⟩
  ·obtain ⟨us, rfl, _⟩ := hu.agg_inv'; obtain ⟨ws, rfl, _⟩ := hv.agg_inv'; exact run_eqGuard_agg w op t ox oy us ws hg
  ·rw [hu.val_inv, hv.val_inv]; unfold eqGuard; cases op <;> rfl
 have eqb : ∀ w r, eqA P 6 t x y = some r → (binOp .eql t u v).run P w = .ok (.bool r) w ∧ (binOp .neq t u v).run P w = .ok (.bool !r) w := by
  intro w r hr; have h1 := Zsr 6 t x y r hr u v hu hv 9994 w; have h1' : (Op.equal t u v).run P w = .ok r w := h1
  rcases hxy with ⟨a, b, rfl, rfl⟩ | ⟨a, b, rfl, rfl⟩
  ·obtain ⟨us, rfl, _⟩ := hu.agg_inv'; obtain ⟨ws, rfl, _⟩ := hv.agg_inv'; constructor <;> simp [binOp, h1']
  ·have e1 := hu.val_inv; have e2 := hv.val_inv; subst e1; subst e2; constructor <;> simp [binOp, h1']
 unfold eqOp at he
 split at he
 ·cases hg : P.eqGuardType P.depth t with
  | true => simp [hg] at he
  | false => simp only [hg, cond_false] at he; rw [Option.map_eq_some_iff] at he; obtain ⟨r, hr, rfl⟩ := he; exact ⟨.bool r, fun w => by simp [guard hg, (eqb w r hr).1], .pure _ _ (.val _)⟩
 ·cases hg : P.eqGuardType P.depth t with
  | true => simp [hg] at he
  | false => simp only [hg, cond_false] at he; rw [Option.map_eq_some_iff] at he; obtain ⟨r, hr, rfl⟩ := he; exact ⟨.bool (bnot r), fun w => by simp [guard hg, (eqb w r hr).2, bnot], .pure _ _ (.val _)⟩
 ·cases he

theorem Zgo {v : Value} {c : SV} (hb : Zbv c = true) (r : Rep h ρ v c) : v.oneCell' = true := by
 cases r with
 | pure _ _ hp =>
  cases hp with
  | val v => cases v <;> first | rfl | (simp [Zbv] at hb)
  | agg => simp [Zbv] at hb
  | empty => rfl
  | slice => rfl
  | ref => rfl
  | clo => rfl
  | ifc => rfl
  | arr => simp [Zbv] at hb
  | unk => simp [Zbv] at hb
 | agg => simp [Zbv] at hb
 | tup => simp [Zbv] at hb
 | ptr => rfl
 | bsl => rfl
 | osl0 => rfl
 | osl => rfl
 | eptr => rfl
 | osv => rfl
 | omp => rfl
 | aptr => simp [Zbv] at hb
 | asl => simp [Zbv] at hb

theorem Zi2 : ∀ {cs : List SV}, boxL cs = true → ∀ (i : Nat) c, cs[i]? = some c → Zbv c = true
 | [], _, i, c, h => by simp at h
 | x :: xs, hb, 0, c, h => by simp [boxL] at hb; simp at h; subst h; exact hb.1
 | x :: xs, hb, i + 1, c, h => by simp [boxL] at hb; exact Zi2 hb.2 i c (by simpa using h)

theorem Zer {v : Value} {s : SV} (r : Rep h ρ v s) (hb : boxL (cellsOf s) = true) : v.cells.size = (cellsOf s).length ∧
  ∀ (i : Nat) u c, v.cells[i]? = some u → (cellsOf s)[i]? = some c → Rep h ρ u c ∧ u.oneCell' = true := by
 by_cases hs : ∃ cs, s = .agg cs
 ·obtain ⟨cs, rfl⟩ := hs
  have key : ∃ vs : Array Value, v = .agg vs ∧ vs.size = cs.length ∧ ∀ (i : Nat) u c, vs[i]? = some u → cs[i]? = some c → Rep h ρ u c := by
   cases r with
   | pure _ _ hp => cases hp with
    | agg vs _ hl hc => exact ⟨vs, rfl, hl, fun i u c hu hc' => .pure _ _ (hc i u c hu hc')⟩
   | agg vs _ hl hc => exact ⟨vs, rfl, hl, hc⟩
  obtain ⟨vs, rfl, hl, hc⟩ := key; refine ⟨hl, fun i u c hu hc' => ?_⟩; have := hc i u c hu hc'; exact ⟨this, Zgo (Zi2 hb i c hc') this⟩
 ·have hcs : cellsOf s = [s] := by cases s <;> first | rfl | exact absurd ⟨_, rfl⟩ hs
  rw [hcs] at hb ⊢; have hb' : Zbv s = true := by simp [boxL] at hb; exact hb
  have h1 := Zgo hb' r
  have hv : v.cells = #[v] := by cases v <;> first | rfl | (simp [Value.oneCell'] at h1)
  rw [hv]; refine ⟨rfl, fun i u c hu hc => ?_⟩
  cases i with
  | zero => simp at hu hc; subst hu; subst hc; exact ⟨r, h1⟩
  | succ i => simp at hu

theorem Zmn {v : Value} (h : Zds v = true) : v.oneCell' = true := by
 cases v <;> first | rfl | (simp [Zds] at h)

theorem Zik (t : TypeId) (v : Value) (hv : Zds v = true) : Rep h ρ v (Zd6 P t v) ∧ Zbv (Zd6 P t v) = true := by
 unfold Zd6
 split
 ·split
  ·exact ⟨.pure _ _ (.empty none 0 _ 1 (by omega) (by omega) (by simp)), rfl⟩
  ·exact ⟨.pure _ _ (.empty none 0 _ 1 (by omega) (by omega) (by simp)), rfl⟩
 ·refine ⟨.pure _ _ (.val _), ?_⟩; have := Zmn hv; unfold Zbv
  cases v <;> first | rfl | (simp [Value.oneCell'] at this)

theorem Zhj : ∀ (ts : List TypeId) (vs : List Value) (cs : List SV), zeroCells P ts vs = some cs →
  vs.length = cs.length ∧ boxL cs = true ∧ ∀ (i : Nat) v c, vs[i]? = some v → cs[i]? = some c → Rep h ρ v c
 | [], [], cs, hz => by simp [zeroCells] at hz; subst hz; simp [boxL]
 | [], _ :: _, cs, hz => by simp [zeroCells] at hz
 | _ :: _, [], cs, hz => by simp [zeroCells] at hz
 | t :: ts, v :: vs, cs, hz => by
  simp only [zeroCells] at hz
  cases hp : Zds v with
  | false => simp [hp] at hz
  | true =>
   simp [hp] at hz; obtain ⟨cs', hz', rfl⟩ := hz; obtain ⟨h1, h2, h3⟩ := Zhj ts vs cs' hz'; have z := Zik (h := h) (ρ := ρ) (P := P) t v hp; refine ⟨by simp [h1], by simp [boxL, z.2, h2], fun i u c hu hc => ?_⟩
   cases i with
   | zero => simp at hu hc; subst hu; subst hc; exact z.1
   | succ i => exact h3 i u c (by simpa using hu) (by simpa using hc)

theorem Zc3 {t : TypeId} {z : SV} (hz : Zkd P t = some z) : ∃ v, (∀ w, (zeroValue t).run P w = .ok v w) ∧ Rep h ρ v z ∧ boxL (cellsOf z) = true := by
 unfold Zkd at hz
 cases hi : P.info? t with
 | none => simp [hi] at hz
 | some i =>
  simp only [hi, Option.bind_some] at hz
  split at hz
  ·rename_i cs hzero; simp at hz; obtain ⟨l, hl, rfl⟩ := hz; obtain ⟨h1, h2, h3⟩ := Zhj (h := h) (ρ := ρ) _ _ _ hl; refine ⟨.agg cs, fun w => by simp [zeroValue, run_typeInfo' w hi, hzero], .agg cs l (by simpa using h1) (fun i v c hv hc => h3 i v c (by simpa using hv) hc), h2⟩
  ·rename_i v hna hzero
   cases hp : Zds v with
   | false => simp [hp] at hz
   | true =>
    simp [hp] at hz; subst hz; have z := Zik (h := h) (ρ := ρ) (P := P) t v hp; refine ⟨v, fun w => by simp [zeroValue, run_typeInfo' w hi, hzero], z.1, ?_⟩
    have : cellsOf (Zd6 P t v) = [Zd6 P t v] := by
     unfold Zd6; split
     ·split <;> rfl
     ·rfl
    rw [this]; simp [boxL, z.2]
  ·cases hz

theorem Zck : ∀ (n : Nat) (vs l r : List SV), Zbs n vs l = some r → n + vs.length ≤ l.length ∧ r = l.take n ++ vs ++ l.drop (n + vs.length)
 | 0, [], l, r, h => by simp [Zbs] at h; subst h; simp
 | 0, v :: vs, [], r, h => by simp [Zbs] at h
 | 0, v :: vs, x :: xs, r, h => by simp [Zbs] at h; obtain ⟨r', hr', rfl⟩ := h; obtain ⟨h1, h2⟩ := Zck 0 vs xs r' hr'; refine ⟨by simp at h1 ⊢; omega, ?_⟩; subst h2; simp [Nat.add_comm]
 | n + 1, vs, [], r, h => by simp [Zbs] at h
 | n + 1, vs, x :: xs, r, h => by simp [Zbs] at h; obtain ⟨r', hr', rfl⟩ := h; obtain ⟨h1, h2⟩ := Zck n vs xs r' hr'; refine ⟨by simp at h1 ⊢; omega, ?_⟩; subst h2; have : n + 1 + vs.length = (n + vs.length) + 1 := (by omega); simp [this]

theorem Zj9 (place : Nat → Option (Nat × Nat)) : ∀ (parts : List (Nat × SV)) (vparts : List (Nat × Value)) (cells cells' : List SV) (vs : Array Value), fillN place cells parts = some cells' →
  vparts.length = parts.length → (∀ (i : Nat) p q, parts[i]? = some p → vparts[i]? = some q → q.1 = p.1 ∧ Rep h ρ q.2 p.2) → vs.size = cells.length →
  (∀ (i : Nat) v c, vs[i]? = some v → cells[i]? = some c → Rep h ρ v c) →
  ∃ vs', Instr.fill place vs vparts = some vs' ∧ vs'.size = cells'.length ∧ ∀ (i : Nat) v c, vs'[i]? = some v → cells'[i]? = some c → Rep h ρ v c
 | [], [], cells, cells', vs, hf, _, _, hl, hr => by simp [fillN] at hf; subst hf; exact ⟨vs, rfl, hl, hr⟩
 | [], _ :: _, _, _, _, _, hlen, _, _, _ => by simp at hlen
 | _ :: _, [], _, _, _, _, hlen, _, _, _ => by simp at hlen
 | (i, s) :: parts, (i', v) :: vparts, cells, cells', vs, hf, hlen, hp, hl, hr => by
  obtain ⟨e1, r1⟩ := hp 0 (i, s) (i', v) rfl rfl; simp only at e1 r1; subst e1; simp only [fillN] at hf
  split at hf
  ·cases hf
  ·rename_i off n hpl
   cases hb : (boxL (cellsOf s) && Nat.beq (lenN (cellsOf s)) n) with
   | false => simp [hb] at hf
   | true =>
    simp only [hb, cond_true] at hf; simp only [Bool.and_eq_true] at hb
    split at hf
    ·cases hf
    ·rename_i cs hsp; obtain ⟨hvs, hvc⟩ := Zer r1 hb.1; have hn : (cellsOf s).length = n := by rw [← Zbi]; exact Nat.eq_of_beq_eq_true hb.2
     obtain ⟨hle, rfl⟩ := Zck _ _ _ _ hsp
     have hfold : ∀ (l : List Value) (k : Nat) (acc : Array Value) (j : Nat), ((l.zipIdx k).foldl (fun cs (c : Value × Nat) => cs.setIfInBounds (off + c.2) c.1) acc)[j]? =
       if off + k ≤ j ∧ j < off + k + l.length ∧ j < acc.size then l[j - (off + k)]? else acc[j]? := by
      intro l
      induction l with
      | nil => intro k acc j; simp; omega
      | cons x xs ih =>
       intro k acc j; simp only [List.zipIdx_cons, List.foldl_cons]; rw [ih]; simp only [Array.size_setIfInBounds, List.length_cons]; by_cases hj : j = off + k
       ·subst hj; have : ¬ (off + (k + 1) ≤ off + k ∧ off + k < off + (k + 1) + xs.length ∧ off + k < acc.size) := (by omega); rw [if_neg this]; by_cases hs : off + k < acc.size
        ·rw [if_pos (by omega)]; simp [hs]
        ·rw [if_neg (by omega)]; simp [hs]
       ·rw [Array.getElem?_setIfInBounds_ne (by omega)]; by_cases hc : off + (k + 1) ≤ j ∧ j < off + (k + 1) + xs.length ∧ j < acc.size
        ·rw [if_pos hc, if_pos (by omega)]; have : j - (off + k) = (j - (off + (k + 1))) + 1 := (by omega); rw [this]; simp
        ·rw [if_neg hc, if_neg (by omega)]
     have hsize : ∀ (l : List (Value × Nat)) (acc : Array Value), (l.foldl (fun cs (c : Value × Nat) => cs.setIfInBounds (off + c.2) c.1) acc).size = acc.size := by
      intro l; induction l with
      | nil => intro acc; rfl
      | cons x xs ih => intro acc; simp [ih]
     obtain ⟨vs', h1, h2, h3⟩ := Zj9 place parts vparts _ cells' (v.cells.zipIdx.foldl (fun cs (c : Value × Nat) => cs.setIfInBounds (off + c.2) c.1) vs) hf (by simpa using hlen)
      (fun j p q hp1 hq1 => hp (j + 1) p q (by simpa using hp1) (by simpa using hq1)) (by
       rw [← Array.foldl_toList, hsize]; simp; omega) (fun j u c hu hc => by
       rw [← Array.foldl_toList, Array.toList_zipIdx, hfold] at hu; simp only [Nat.add_zero, Array.length_toList] at hu; rw [List.append_assoc, List.getElem?_append] at hc; have l4 : (List.take off cells).length = off := by simp; omega
       rw [l4] at hc; by_cases c1 : j < off
       ·rw [if_pos c1, List.getElem?_take, if_pos c1] at hc; rw [if_neg (by omega)] at hu; exact hr j u c hu hc
       ·rw [if_neg c1, List.getElem?_append] at hc; by_cases c2 : j - off < (cellsOf s).length
        ·rw [if_pos c2] at hc; rw [if_pos (by omega)] at hu; exact (hvc _ u c (by simpa using hu) hc).1
        ·rw [if_neg c2, List.getElem?_drop] at hc; rw [if_neg (by omega)] at hu
         exact hr _ u c hu (by rw [← hc]; congr 1; omega))
     refine ⟨vs', ?_, h2, h3⟩; unfold Instr.fill; rw [hpl]; have hcond : ¬ ((v.cells.size ≠ n || off + v.cells.size > vs.size) = true) := by simp; omega
     simp only []; rw [if_neg hcond]; exact h1

theorem Zlk {P : Program} (w : World) : ∀ (l : List Field), (∀ f ∈ l, (szT P f.type).isSome = true) → (l.mapM fun f => do pure (f.offset, ← sizeOf f.type) : Sem (List (Nat × Nat))).run P w = .ok (l.map fun f => (f.offset, (szT P f.type).getD 0)) w
 | [], _ => by simp
 | f :: l, h => by obtain ⟨n, hn⟩ := Option.isSome_iff_exists.1 (h f (by simp)); have ih := Zlk w l (fun g hg => h g (by simp [hg])); simp only [List.mapM_cons, Sem.run_bind, run_sizeOf' w hn, Result.andThen_ok, Sem.run_pure, ih, List.map_cons, hn, Option.getD_some]

theorem Zmo {t : TypeId} {parts : List (Nat × SV)} {vparts : Array (Nat × Value)} {s : SV} (hb : Zo6 P t parts = some s) (hl : vparts.size = parts.length)
  (hp : ∀ (i : Nat) p q, parts[i]? = some p → vparts[i]? = some q → q.1 = p.1 ∧ Rep h ρ q.2 p.2) :
  ∃ v, (∀ w, (Instr.build t vparts).run P w = .ok v w) ∧ Rep h ρ v s := by
 unfold Zo6 at hb
 cases hagg : Zo5 P t with
 | false => simp [hagg] at hb
 | true =>
  simp only [hagg, cond_true] at hb
  split at hb
  ·rename_i zs hz; simp at hb; obtain ⟨cs, hcs, rfl⟩ := hb; obtain ⟨z, hzr, rz, hbx⟩ := Zc3 (h := h) (ρ := ρ) hz; obtain ⟨zv, rfl, hzl, hzc⟩ := rz.agg_inv'; obtain ⟨vs', h1, h2, h3⟩ := Zj9 (Zh3 P t) parts vparts.toList zs cs zv hcs (by simpa using hl) (fun i p q hp1 hq1 => hp i p q hp1 (by simpa using hq1)) hzl hzc; refine ⟨.agg vs', fun w => ?_, .agg vs' cs h2 h3⟩; unfold Instr.build; simp only [Sem.run_bind, hzr, Result.andThen_ok, Value.cells]; unfold Zo5 at hagg
   cases hu : P.underlying t with
   | none => simp [hu] at hagg
   | some d =>
    rw [run_underlying hu]; simp only [Result.andThen_ok]; rw [hu] at hagg
    cases d with
    | struct fs =>
     simp only [List.all_eq_true] at hagg; simp only [Sem.run_bind, Array.mapM_eq_mapM_toList, Sem.run_map]; rw [Zlk w fs.toList hagg]; simp only [Result.andThen_ok]
     have hpl : (fun i => ((fs.toList.map fun f => (f.offset, (szT P f.type).getD 0)).toArray)[i]?) = Zh3 P t := by
      funext i
      simp only [Zh3, hu, List.getElem?_toArray, List.getElem?_map, Array.getElem?_toList]
      cases hf : fs[i]? with
      | none => rfl
      | some f => obtain ⟨n, hn⟩ := Option.isSome_iff_exists.1 (hagg f (by have := Array.mem_of_getElem? hf; simpa using this)); simp [hn]
     rw [hpl, h1]; rfl
    | array n e =>
     obtain ⟨c, hz'⟩ := Option.isSome_iff_exists.1 hagg; simp only [Sem.run_bind]; rw [run_sizeOf' w hz']; simp only [Result.andThen_ok]
     have hpl : (fun i => some (i * c, c)) = Zh3 P t := by
      funext i; simp [Zh3, hu, hz']
     rw [hpl, h1]; rfl
    | _ => simp at hagg
  ·cases hb

theorem Ze4 {v : Value} {s : SV} (t : TypeId) (r : PRep h v s) : PRep h v (fixSz P t s) := by
 unfold fixSz
 split
 ·rename_i e sz rows tok hu
  cases hb : Nat.beq sz 0 with
  | false => exact r
  | true => have : sz = 0 := Nat.eq_of_beq_eq_true hb; subst this; exact r.fix (.inr rfl)
 ·exact r

theorem Rep.fixSz {v : Value} {s : SV} (t : TypeId) (r : Rep h ρ v s) : Rep h ρ v (fixSz P t s) := by
 cases r with
 | pure _ _ hp => exact .pure _ _ (Ze4 t hp)
 | agg vs cs hl hc => have : Px.fixSz P t (.agg cs) = .agg cs := by (unfold Px.fixSz; split <;> simp_all)
                      rw [this]; exact .agg vs cs hl hc
 | tup vs cs hl hc => have : Px.fixSz P t (.tup cs) = .tup cs := by (unfold Px.fixSz; split <;> simp_all)
                      rw [this]; exact .tup vs cs hl hc
 | ptr id off => have : Px.fixSz P t (.ptr id off) = .ptr id off := by (unfold Px.fixSz; split <;> simp_all)
                 rw [this]; exact .ptr id off
 | bsl id off n => have : Px.fixSz P t (.bsl id off n) = .bsl id off n := by (unfold Px.fixSz; split <;> simp_all)
                   rw [this]; exact .bsl id off n
 | osl0 id p hn => have : Px.fixSz P t (.osl id) = .osl id := by (unfold Px.fixSz; split <;> simp_all)
                   rw [this]; exact .osl0 id p hn
 | osl id hn => have : Px.fixSz P t (.osl id) = .osl id := by (unfold Px.fixSz; split <;> simp_all)
                rw [this]; exact .osl id hn
 | eptr id e i off hn => have : Px.fixSz P t (.eptr id e i off) = .eptr id e i off := by (unfold Px.fixSz; split <;> simp_all)
                         rw [this]; exact .eptr id e i off hn
 | osv id l hh c p h0 h1 h2 hc hp => have : Px.fixSz P t (.osv id l hh c) = .osv id l hh c := by (unfold Px.fixSz; split <;> simp_all)
                                     rw [this]; exact .osv id l hh c p h0 h1 h2 hc hp
 | omp id => have : Px.fixSz P t (.omp id) = .omp id := by (unfold Px.fixSz; split <;> simp_all)
             rw [this]; exact .omp id
 | aptr id i => have : Px.fixSz P t (.aptr id i) = .aptr id i := by (unfold Px.fixSz; split <;> simp_all)
                rw [this]; exact .aptr id i
 | asl id l hh cap => have : Px.fixSz P t (.asl id l hh) = .asl id l hh := by (unfold Px.fixSz; split <;> simp_all)
                      rw [this]; exact .asl id l hh cap

theorem Rep.fixNil {v : Value} {s : SV} (t : TypeId) (x : Operand) (r : Rep h ρ v s) : Rep h ρ v (fixNil P t x s) := by
 unfold Px.fixNil
 split
 ·exact r.fixSz t
 ·exact r

theorem Zss (a b : ByteArray) : (a == b) = decide (a = b) := by
 show ByteArray.beq a b = _; unfold ByteArray.beq
 cases a with | mk x => cases b with | mk y =>
 by_cases h : x = y
 ·subst h; simp
 ·have : (x == y) = false := (by simpa using h); simp [h]

theorem Zgp (s : ByteArray) : ∀ (l : List MapEntry) (es : List (ByteArray × Int)) (i : Nat), l.map (fun e => (e.key, e.val)) = es.map (fun e => ((.string e.1 : Value), (.int .i64 e.2 : Value))) →
  (mhas es s = true ∧ ∃ j, i ≤ j ∧ Instr.findNow .string (.string s) l i = some (some (j, .int .i64 (mget es s))) ∧ (l[j - i]?).map (·.key) = some (.string s) ∧
   ∀ n, (l.modify (j - i) fun e => { e with key := .string s, val := .int .i64 n }).map (fun e => (e.key, e.val)) = (mset es s n).map (fun e => ((.string e.1 : Value), (.int .i64 e.2 : Value)))) ∨
  (mhas es s = false ∧ mget es s = 0 ∧ Instr.findNow .string (.string s) l i = some none ∧ ∀ n, mset es s n = es ++ [(s, n)])
 | [], [], i, _ => .inr ⟨rfl, rfl, rfl, fun n => rfl⟩
 | [], _ :: _, i, h => by simp at h
 | _ :: _, [], i, h => by simp at h
 | e :: l, x :: es, i, h => by
  simp only [List.map_cons, List.cons.injEq, Prod.mk.injEq] at h; obtain ⟨⟨hk, hv⟩, hr⟩ := h; by_cases hs : x.1 = s
  ·refine .inl ⟨by simp [mhas, hs], i, Nat.le_refl _, ?_, ?_, fun n => ?_⟩
   ·simp [Instr.findNow, hk, Instr.sameNow, hs, hv, mget, Zss]
   ·simp [hk, hs]
   ·simp [mset, msetR, hs, hr]
  ·have hne : (s == x.1) = false := by rw [Zss]; simp; exact fun e => hs e.symm
   rcases Zgp s l es (i + 1) hr with ⟨h1, j, hij, h2, h3, h4⟩ | ⟨h1, h2, h3, h4⟩
   ·refine .inl ⟨by simp [mhas, hs] at h1 ⊢; exact h1, j, by omega, ?_, ?_, fun n => ?_⟩
    ·simp only [Instr.findNow, hk, Instr.sameNow, hne, h2]; simp [mget, hs]
    ·rw [show j - i = (j - (i + 1)) + 1 by omega]; simpa using h3
    ·rw [show j - i = (j - (i + 1)) + 1 by omega]; have := h4 n; simp [mset, msetR, hs, hk, hv] at this ⊢; exact this
   ·refine .inr ⟨by simp [mhas, hs] at h1 ⊢; exact h1, ?_, ?_, fun n => ?_⟩
    ·simp [mget, hs] at h2 ⊢; exact h2
    ·simp only [Instr.findNow, hk, Instr.sameNow, hne, h3]
    ·have := h4 n; simp only [mset] at this; simp [mset, msetR, hs, this]

theorem Zcp {kt : TypeId} (hkt : P.underlying kt = some .string) (b : Bool) (n : Nat) (s : ByteArray) (w : World) : (Instr.checkKey b (n + 1) kt (.string s)).run P w = .ok () w := by
 simp [Instr.checkKey, run_underlying hkt]

theorem Rep.omp_inv {v : Value} {id : Nat} (r : Rep h ρ v (.omp id)) : v = .map (some (ρ id).blk) := by
 cases r with
 | pure _ _ hp => cases hp
 | omp => rfl

theorem Rep.osl_inv {v : Value} {id : Nat} (r : Rep h ρ v (.osl id)) : ((ρ id).none = true ∧ ∃ p, v = .slice p 0 0) ∨ ((ρ id).none = false ∧ v = .slice (some ⟨(ρ id).blk, (ρ id).off, Option.none⟩) (ρ id).len (ρ id).cap) := by
 cases r with
 | pure _ _ hp => cases hp
 | osl0 id p hn => exact .inl ⟨hn, p, rfl⟩
 | osl id hn => exact .inr ⟨hn, rfl⟩

theorem Rep.eptr_inv {v : Value} {id : Nat} {e : TypeId} {i : Int} {off : Nat} (r : Rep h ρ v (.eptr id e i off)) : (ρ id).none = false ∧ v = .pointer (some ⟨(ρ id).blk, (ρ id).off + i.toNat * (ρ id).sz + off, Option.none⟩) := by
 cases r with
 | pure _ _ hp => cases hp
 | eptr _ _ _ _ hn => exact ⟨hn, rfl⟩

theorem Zxh {v : Value} {id sz : Nat} {rows : List (List SV)} (r : Rep h ρ v (.osl id)) (ho : ObOK h ρ w id (.own sz rows)) : ∃ p cap, v = .slice p rows.length cap := by
 rcases r.osl_inv with ⟨hn, p, rfl⟩ | ⟨hn, rfl⟩
 ·rcases ho with ⟨_, rfl⟩ | ⟨hn', _⟩
  ·exact ⟨p, 0, rfl⟩
  ·rw [hn] at hn'; cases hn'
 ·rcases ho with ⟨hn', _⟩ | ⟨_, o⟩
  ·rw [hn] at hn'; cases hn'
  ·exact ⟨_, _, by rw [o.hlen]⟩

theorem Zgq (F : FitsAt X h ρ st a w) (o : Oper) (gv : List (Nat × Bool) → Operand → SV)
  (hgv : ∀ ex x, (∀ g ∈ ex, a.tmps.getD g.1 undef = .bool g.2) → Rep h ρ (a.eval x) (gv ex x)) {s : SV} (hq : quiet P o.type gv st.objs o.op = some s) :
  ∃ v, (∀ w', SameB (fblk P a o) w w' → (execOp a.eval o).run P w' = .ok (.value v) w') ∧ Rep h ρ v s := by
 have hsv : ∀ x, Rep h ρ (a.eval x) (gv [] x) := fun x => hgv [] x (by simp); unfold quiet at hq
 split at hq
 ·rename_i x heq
  cases hq
  exact ⟨a.eval x, fun w _ => by simp [execOp, heq], (hsv x).fixNil _ _⟩
 ·rename_i x heq
  cases hq
  exact ⟨a.eval x, fun w _ => by simp [execOp, heq], (hsv x).fixNil _ _⟩
 ·rename_i c x y heq
  split at hq
  ·rename_i t p hp; have hc := hsv (.tmp t); rw [hp] at hc; have hct : a.tmps.getD t undef = .bool p := hc.val_inv; unfold pickV at hq
   split at hq
   ·rename_i m n hm hn
    cases hq
    refine ⟨.bool (bpick p m n), fun w _ => ?_, .pure _ _ (.val _)⟩; simp only [execOp, heq, hc.val_inv]
    cases p with
    | true => have h1 := hgv [(t, true)] x (by simpa using hct); rw [hm] at h1; simp [h1.val_inv, asBool, bpick]
    | false => have h2 := hgv [(t, false)] y (by simpa using hct); rw [hn] at h2; simp [h2.val_inv, asBool, bpick]
   ·cases p with
    | true =>
     cases hq
     exact ⟨a.eval x, fun w _ => by simp [execOp, heq, hc.val_inv, asBool], hgv [(t, true)] x (by simpa using hct)⟩
    | false =>
     cases hq
     exact ⟨a.eval y, fun w _ => by simp [execOp, heq, hc.val_inv, asBool], hgv [(t, false)] y (by simpa using hct)⟩
  ·cases hq
 ·rename_i t x f heq; obtain ⟨u, hu, r⟩ := Znw (P := P) (hsv x) hq; exact ⟨u, fun w _ => by simp [execOp, heq, hu], r⟩
 ·rename_i t x heq; obtain ⟨u, ad, hv, hu, r⟩ := Zij F (hsv x) hq; exact ⟨u, fun w' hx => by simp [execOp, heq, hu w' (hx ad.block (by simp [fblk, Zb3, heq, hv]))], r⟩
 ·rename_i op t x y t' heq
  split at hq
  ·rename_i k m k' n hm hn; have h1 := hsv x; rw [hm] at h1; have h2 := hsv y; rw [hn] at h2; by_cases hk : k = k'
   ·subst hk; simp at hq; obtain ⟨r, hr, rfl⟩ := hq; exact ⟨r, fun w _ => by simp [execOp, heq, h1.val_inv, h2.val_inv, Zdm, Zoz t hr], .pure _ _ (.val _)⟩
   ·simp [hk] at hq
  ·rename_i m n hm hn; have h1 := hsv x; rw [hm] at h1; have h2 := hsv y; rw [hn] at h2; simp at hq; obtain ⟨r, hr, rfl⟩ := hq; exact ⟨r, fun w _ => by simp [execOp, heq, h1.val_inv, h2.val_inv, Zj8, Zo0 t hr], .pure _ _ (.val _)⟩
  ·rename_i m n hm hn; have h1 := hsv x; rw [hm] at h1; have h2 := hsv y; rw [hn] at h2; obtain ⟨r, hr, rr⟩ := Zlj x y (.inr ⟨m, n, rfl, rfl⟩) h1 h2 hq; exact ⟨r, fun w _ => by have hr := hr w; simp only [execOp, heq]; simp only [Sem.run_bind] at hr ⊢; rw [hr]; rfl, rr⟩
  ·rename_i m n hm hn; have h1 := hsv x; rw [hm] at h1; have h2 := hsv y; rw [hn] at h2; obtain ⟨r, hr, rr⟩ := Zlj x y (.inl ⟨m, n, rfl, rfl⟩) h1 h2 hq; exact ⟨r, fun w _ => by have hr := hr w; simp only [execOp, heq]; simp only [Sem.run_bind] at hr ⊢; rw [hr]; rfl, rr⟩
  ·cases hq
 ·rename_i t parts heq
  obtain ⟨v, hv, r⟩ := Zmo (P := P) (h := h) (ρ := ρ) (vparts := parts.map fun (i, x) => (i, a.eval x)) hq (by simp) (fun i p q hp hq' => by
   simp at hp hq'; obtain ⟨m, n, e1, rfl⟩ := hp; obtain ⟨m', n', e2, rfl⟩ := hq'; rw [e1] at e2
   cases e2
   exact ⟨rfl, hsv n⟩)
  exact ⟨v, fun w _ => by simp only [execOp, heq, Sem.run_bind, hv w, Result.andThen_ok]; rfl, r⟩
 ·rename_i t x f heq
  split at hq
  ·rename_i cs fd hx hfd; have h1 := hsv x; rw [hx] at h1; obtain ⟨vs, hv, hl, hc⟩ := h1.agg_inv'; obtain ⟨u, hu, r⟩ := Zcs (P := P) hl hc hq
   have hfs : ∃ fs : Array Field, P.underlying t = some (.struct fs) ∧ fs[f]? = some fd := by
    unfold Zmr at hfd
    split at hfd
    ·rename_i fs hu'; exact ⟨fs, hu', hfd⟩
    ·cases hfd
   obtain ⟨fs, hut, hf⟩ := hfs; exact ⟨u, fun w _ => by simp [execOp, heq, hv, Instr.field, run_underlying hut, hf, asAgg, hu], r⟩
  ·cases hq
 ·rename_i x heq; have h1 := hsv x
  split at hq
  ·rename_i id off hx
   cases hq
   rw [hx] at h1; refine ⟨a.eval x, fun w _ => ?_, h1⟩
   cases h1' : a.eval x with
   | pointer p =>
    cases p with
    | none => rw [h1'] at h1; cases h1 with
     | pure _ _ hp => cases hp
    | some ad => simp [execOp, heq, h1']
   | _ => rw [h1'] at h1; cases h1 with
       | pure _ _ hp => cases hp
  ·rename_i off cs hx
   cases hq
   rw [hx] at h1; refine ⟨a.eval x, fun w _ => ?_, h1⟩
   cases h1' : a.eval x with
   | pointer p =>
    cases p with
    | none => rw [h1'] at h1; cases h1 with
     | pure _ _ hp => cases hp
    | some ad => simp [execOp, heq, h1']
   | _ => rw [h1'] at h1; cases h1 with
       | pure _ _ hp => cases hp
  ·rename_i f cs hx
   cases hq
   rw [hx] at h1; refine ⟨a.eval x, fun w _ => ?_, h1⟩
   cases h1' : a.eval x with
   | func fn fi ca =>
    rw [h1'] at h1; cases h1 with
     | pure _ _ hp => cases hp with
      | clo => simp [execOp, heq, h1']
   | _ => rw [h1'] at h1; cases h1 with
       | pure _ _ hp => cases hp
  ·rename_i id e i off hx
   cases hq
   rw [hx] at h1; exact ⟨a.eval x, fun w _ => by simp [execOp, heq, h1.eptr_inv.2], h1⟩
  ·cases hq
 ·rename_i t x k ok heq
  split at hq
  ·rename_i kt et id s' hut hx hk
   split at hq
   ·rename_i es hkt het hob
    split at hq
    ·rename_i hz
     cases hq
     have h1 := hsv x; rw [hx] at h1; have h2 := hsv k; rw [hk] at h2; obtain ⟨hn, ⟨ents, cl, hblk, hm⟩, hno⟩ := F.obj id _ hob; have hv := h1.omp_inv; obtain ⟨z, hzr, rz, _⟩ := Zc3 (h := h) (ρ := ρ) hz; have hze := rz.val_inv; subst hze; have key : ∀ w' : World, SameB (fblk P a o) w w' → w'.heap[(ρ id).blk]? = some (.map ents cl) := fun w' hs => by rw [hs _ (by simp [fblk, Zb3, heq, hv])]; exact hblk
     rcases Zgp s' ents.toList es 0 hm with ⟨g1, j, _, g2, _⟩ | ⟨g1, g2, g3, _⟩
     ·refine ⟨if ok then .tuple #[.int .i64 (mget es s'), .bool true] else .int .i64 (mget es s'), fun w' hs => ?_, ?_⟩
      ·have hb := key w' hs; simp [execOp, heq, hv, h2.val_inv, Instr.lookup, run_underlying hut, getObj, Sem.run, hb, Zcp hkt, Instr.findKey, run_underlying hkt, g2]
      ·cases ok with
       | true => rw [g1]; exact .tup _ _ rfl (fun i v c hv hc => by
         match i with
         | 0 => simp at hv hc; subst hv; subst hc; exact .pure _ _ (.val _)
         | 1 => simp at hv hc; subst hv; subst hc; exact .pure _ _ (.val _)
         | i + 2 => simp at hv)
       | false => exact .pure _ _ (.val _)
     ·refine ⟨if ok then .tuple #[.int .i64 0, .bool false] else .int .i64 0, fun w' hs => ?_, ?_⟩
      ·have hb := key w' hs; simp [execOp, heq, hv, h2.val_inv, Instr.lookup, run_underlying hut, getObj, Sem.run, hb, Zcp hkt, Instr.findKey, run_underlying hkt, g3, hzr w']
      ·cases ok with
       | true => rw [g1, g2]; exact .tup _ _ rfl (fun i v c hv hc => by
         match i with
         | 0 => simp at hv hc; subst hv; subst hc; exact .pure _ _ (.val _)
         | 1 => simp at hv hc; subst hv; subst hc; exact .pure _ _ (.val _)
         | i + 2 => simp at hv)
       | false => rw [g2]; exact .pure _ _ (.val _)
    ·cases hq
   ·cases hq
  ·cases hq
 ·rename_i op t x heq
  split at hq
  ·rename_i b hb
   cases hq
   have h1 := hsv x; rw [hb] at h1; exact ⟨.bool (bnot b), fun w _ => by simp [execOp, heq, h1.val_inv, Op.unary, bnot], .pure _ _ (.val _)⟩
  ·rename_i k n hb
   cases hq
   have h1 := hsv x; rw [hb] at h1; exact ⟨.int k (wneg k n), fun w _ => by simp [execOp, heq, h1.val_inv, Op.unary, Op.intArith, wneg], .pure _ _ (.val _)⟩
  ·rename_i k n hb
   cases hq
   have h1 := hsv x; rw [hb] at h1; exact ⟨.int k (wnot k n), fun w _ => by simp [execOp, heq, h1.val_inv, Op.unary, Op.intBits, wnot, wxor], .pure _ _ (.val _)⟩
  ·cases hq
 ·rename_i src dst x heq
  split at hq
  ·rename_i k0 k k1 n hs hd hx
   cases hq
   have h1 := hsv x; rw [hx] at h1; exact ⟨.int k (wcv k n), fun w _ => by simp [execOp, heq, h1.val_inv, convert, run_underlying hs, run_underlying hd, Conv.intToInt, wcv], .pure _ _ (.val _)⟩
  ·rename_i s' hs hd hx
   cases hq
   have h1 := hsv x; rw [hx] at h1; exact ⟨.string s', fun w _ => by simp [execOp, heq, h1.val_inv, convert, run_underlying hs, run_underlying hd], .pure _ _ (.val _)⟩
  ·cases hq
 ·rename_i x i heq
  split at hq
  ·rename_i cs hx; have h1 := hsv x; rw [hx] at h1; obtain ⟨vs, hv, hl, hc⟩ := h1.tup_inv; rw [Zbi, Zco] at hq
   cases hb : Nat.ble (i + 1) cs.length with
   | false => simp [hb] at hq
   | true =>
    simp [hb] at hq; have hle := Nat.le_of_ble_eq_true hb
    obtain ⟨u, hu⟩ : ∃ u, vs[i]? = some u := ⟨vs[i]'(by omega), Array.getElem?_eq_getElem (by omega)⟩
    obtain ⟨c, hcs⟩ : ∃ c, cs[i]? = some c := ⟨cs[i]'(by omega), List.getElem?_eq_getElem (by omega)⟩
    rw [hcs] at hq; simp at hq; subst hq; exact ⟨u, fun w _ => by simp [execOp, heq, hv, Instr.extract, hu], hc i u c hu hcs⟩
  ·cases hq
 ·rename_i b x t heq
  split at hq
  ·rename_i e sz rows tok hu hx
   cases hq
   have h1 := hsv x; rw [hx] at h1; obtain ⟨b, cap, hv⟩ := h1.slice_inv; exact ⟨.int .i64 (rlen rows), fun w _ => by simp [execOp, heq, hv, rlen, resolve, invoke, builtin, Builtin.len_, run_underlying hu, goInt], .pure _ _ (.val _)⟩
  ·rename_i e id off n hu hx
   cases hq
   have h1 := hsv x; rw [hx] at h1; have hv : a.eval x = .slice (some ⟨(ρ id).blk, off, none⟩) n n := h1.bsl_inv; exact ⟨.int .i64 (Int.ofNat n), fun w _ => by simp [execOp, heq, hv, resolve, invoke, builtin, Builtin.len_, run_underlying hu, goInt], .pure _ _ (.val _)⟩
  ·rename_i e id hu hx
   split at hq
   ·rename_i sz rows hob
    cases hq
    have h1 := hsv x; rw [hx] at h1; obtain ⟨p, cap, hv⟩ := Zxh h1 (F.obj id _ hob); exact ⟨.int .i64 (rlen rows), fun w _ => by simp [execOp, heq, hv, rlen, resolve, invoke, builtin, Builtin.len_, run_underlying hu, goInt], .pure _ _ (.val _)⟩
   ·cases hq
  ·rename_i kt et id hu hx
   split at hq
   ·rename_i es hob
    cases hq
    have h1 := hsv x; rw [hx] at h1; obtain ⟨hn, ⟨ents, cl, hblk, hm⟩, hno⟩ := F.obj id _ hob; have hv := h1.omp_inv
    have hl : ents.size = es.length := by
     have := congrArg List.length hm
     simpa using this
    refine ⟨.int .i64 (mlen es), fun w' hs => ?_, .pure _ _ (.val _)⟩; have hb : w'.heap[(ρ id).blk]? = some (.map ents cl) := by rw [hs _ (by simp [fblk, Zb3, heq, hv, hu])]; exact hblk
    simp [execOp, heq, hv, mlen, resolve, invoke, builtin, Builtin.len_, run_underlying hu, goInt, getObj, Sem.run, hb, hl]
   ·cases hq
  ·rename_i s' hu hx
   cases hq
   have h1 := hsv x; rw [hx] at h1; exact ⟨.int .i64 (slen s'), fun w _ => by simp [execOp, heq, h1.val_inv, slen, resolve, invoke, builtin, Builtin.len_, run_underlying hu, goInt], .pure _ _ (.val _)⟩
  ·rename_i n e hu
   cases hq
   refine ⟨.int .i64 (Int.ofNat n), fun w _ => ?_, .pure _ _ (.val _)⟩; simp [execOp, heq, resolve, invoke, builtin, Builtin.len_, run_underlying hu, goInt]
  ·rename_i k0 k re im hu hx
   cases hq
   have h1 := hsv x; rw [hx] at h1; exact ⟨.float k re, fun w _ => by simp [execOp, heq, h1.val_inv, resolve, invoke, builtin, Zxf], .pure _ _ (.val _)⟩
  ·rename_i k0 k re im hu hx
   cases hq
   have h1 := hsv x; rw [hx] at h1; exact ⟨.float k im, fun w _ => by simp [execOp, heq, h1.val_inv, resolve, invoke, builtin, Zxg], .pure _ _ (.val _)⟩
  ·cases hq
 ·rename_i b x y t heq
  split at hq
  ·rename_i k m k' n hx hy; have h1 := hsv x; rw [hx] at h1; have h2 := hsv y; rw [hy] at h2; by_cases hk : k = k'
   ·subst hk; simp at hq; subst hq; exact ⟨_, fun w _ => by simp [execOp, heq, h1.val_inv, h2.val_inv, resolve, invoke, builtin, Builtin.min_, Builtin.min2, imin], .pure _ _ (.val _)⟩
   ·simp [hk] at hq
  ·rename_i k m k' n hx hy; have h1 := hsv x; rw [hx] at h1; have h2 := hsv y; rw [hy] at h2; by_cases hk : k = k'
   ·subst hk; simp at hq; subst hq; exact ⟨_, fun w _ => by simp [execOp, heq, h1.val_inv, h2.val_inv, resolve, invoke, builtin, Builtin.max_, Builtin.max2, imax], .pure _ _ (.val _)⟩
   ·simp [hk] at hq
  ·rename_i k m k' n hx hy; have h1 := hsv x; rw [hx] at h1; have h2 := hsv y; rw [hy] at h2; by_cases hk : k = k'
   ·subst hk; simp at hq; subst hq; exact ⟨_, fun w _ => by simp [execOp, heq, h1.val_inv, h2.val_inv, resolve, invoke, builtin, Zrm], .pure _ _ (.val _)⟩
   ·simp [hk] at hq
  ·cases hq
 ·cases hq

end

theorem Zcb (P : Program) (g o : Nat) (t : TypeId) (fz : Nat × Nat) : ∀ (vs : List Value) (i : Nat) (cur : Array Value) (w : World), w.heap[g]? = some (.cells cur t fz) → o + i + vs.length ≤ cur.size → (∀ v ∈ vs, v.oneCell' = true) →
  (∀ x, o + i ≤ x → x < o + i + vs.length → ¬ (fz.1 ≤ x ∧ x < fz.2)) →
  (storeCells ⟨g, o, none⟩ vs i).run P w = .ok () (w.setRow g (cur.toList.take (o + i) ++ vs ++ cur.toList.drop (o + i + vs.length)).toArray)
 | [], i, cur, w, hg, _, _, _ => by simp only [storeCells, List.append_nil, List.length_nil, Nat.add_zero, List.take_append_drop, Array.toArray_toList]; rw [setRow_self w g cur t fz hg]; rfl
 | v :: rest, i, cur, w, hg, hl, h1, hf => by
  have hi : o + i < cur.size := (by simp at hl; omega); have hadd : (⟨g, o, none⟩ : Addr).add i = ⟨g, o + i, none⟩ := by unfold Addr.add; split <;> simp_all
  have hcell : w.cell? ⟨g, o + i, none⟩ = some cur[o + i] := by simp [World.cell?, hg, hi]
  have hfro : w.frozen? ⟨g, o + i, none⟩ = false := by
   have := hf (o + i) (Nat.le_refl _) (by simp); simp only [World.frozen?, hg]
   simpa using this
  have hst : (store ((⟨g, o, none⟩ : Addr).add i) v).run P w = .ok () (w.setRow g (cur.setIfInBounds (o + i) v)) := by rw [hadd, run_store P w _ v _ (h1 v (by simp)), hcell]; simp [hfro, setCell_eq_setRow w g (o + i) cur t fz v hg]
  have ih := Zcb P g o t fz rest (i + 1) (cur.setIfInBounds (o + i) v) (w.setRow g (cur.setIfInBounds (o + i) v)) (setRow_heap w g cur _ t _ hg) (by simp at hl ⊢; omega) (fun x hx => h1 x (by simp [hx]))
   (fun x hx1 hx2 => hf x (by omega) (by simp at hx2 ⊢; omega))
  simp only [storeCells, Sem.run_bind, hst, Result.andThen_ok, ih, setRow_setRow]; congr 3; have e := list_seg_step cur.toList (o + i) v rest (by simp at hl ⊢; omega)
  simpa [Array.toList_setIfInBounds, Nat.add_assoc] using e

theorem Zb5 (w : World) (g : Nat) (cs : Array Value) : Keeps (fun b => b = g) w (w.setRow g cs) :=
 ⟨rfl, rfl, rfl, by simp, fun k hk hg => setRow_other _ _ _ _ hg⟩

theorem Zby (w : World) (o : Obj) : Keeps (fun _ => False) w (w.alloc o) :=
 ⟨rfl, rfl, rfl, by show _ ≤ (w.heap.push _).size; simp, fun k hk _ => Below.heap_alloc w o k hk⟩

theorem Zrn (w : World) : Keeps (fun _ => False) w { w with drawn := w.drawn + 1 } := ⟨rfl, rfl, rfl, Nat.le_refl _, fun _ _ _ => rfl⟩

section
variable {X : Cx} {h : Hp} {ρ : Nat → Loc} {st : St} {a : Act} {w : World} {P : Program}

theorem FitsAt.made {w' : World} (F : FitsAt X h ρ st a w) (hk : Keeps (fun _ => False) w w') : FitsAt X h ρ st a w' :=
 F.world (fun b hb => hk.block b hb id) (F.kp.step hk (fun _ e => e.elim))

theorem Zcy (hs : HSub h w) (o : Nat) (b : Nat) (hb : w.heap.size ≤ b) : h b o = none := by
 cases e : h b o with
 | none => rfl
 | some v => exact absurd (hs.lt e) (by omega)

theorem FitsAt.newBox (F : FitsAt X h ρ st a w) (id : Nat) (hid : idOK id = true) (vs : Array Value) (t : TypeId) (cells : List SV) (hl : vs.size = cells.length)
  (hc : ∀ (i : Nat) u c, vs[i]? = some u → cells[i]? = some c → Rep h ρ u c ∧ u.oneCell' = true) :
  FitsAt X h (upd ρ id ⟨w.heap.size, 0, 0, 0, 0, false⟩) (st.bind id (.box cells)) a (w.alloc (.cells vs t)) := by
 have F1 := F.made (Zby w (.cells vs t)); refine F1.bind id hid (.box cells) _ ?_ (fun _ => .inl F.kp.size) (fun _ i _ hi => ?_)
 ·simp only [ObOK, Zd5, Zad]; refine ⟨trivial, ⟨vs, t, by show (w.heap.push _)[_]? = _; simp, by rw [Zbw]; exact hl, fun i v c hv hc' => ?_⟩, fun o => Zcy F.sub o _ (Nat.le_refl _)⟩; rw [hmapL_getElem?] at hc'
  cases hx : cells[i]? with
  | none => simp [hx] at hc'
  | some y => simp [hx] at hc'; subst hc'; obtain ⟨p, q⟩ := hc i v y hv hx; exact ⟨p.kill id (HLe.refl h) (fun j hj => Zii ρ _ hj), q⟩
 ·obtain ⟨⟨o, ho⟩, hn⟩ := hi; exact Nat.ne_of_lt (ObOK.blk_lt (F.obj i o ho) hn)

theorem FitsAt.newOwn {w' : World} (F : FitsAt X h ρ st a w) (id : Nat) (hid : idOK id = true) (o : Ob) (l : Loc) (hk : Keeps (fun _ => False) w w') (hbox : ∀ cs, o ≠ .box cs) (hl : l.none = false → w.heap.size ≤ l.blk)
  (ho : ObOK h (upd ρ id l) w' id o) : FitsAt X h (upd ρ id l) (st.bind id o) a w' := by
 have hm : Zd5 (killG id) o = o := by cases o <;> first | rfl | exact absurd rfl (hbox _)
 refine (F.made hk).bind id hid o l (by rw [hm]; exact ho) (fun hn => .inl (Nat.le_trans F.kp.size (hl hn))) (fun hn i _ hi => ?_); obtain ⟨⟨o, ho⟩, hni⟩ := hi; have := ObOK.blk_lt (F.obj i o ho) hni; have := hl hn; omega

theorem FitsAt.touch {w' : World} (F : FitsAt X h ρ st a w) (b : Nat) (hb : ∀ i, live st.objs ρ i → (ρ i).blk ≠ b) (hh : ∀ o, h b o = none) (hg : X.w.heap.size ≤ b ∨ X.G b)
  (hoth : ∀ k, k ≠ b → w'.heap[k]? = w.heap[k]?) (hkp : Keeps (fun k => k = b) w w') : FitsAt X h ρ st a w' := by
 refine { F with sub := fun k o v e => ?_, obj := fun i o ho => ?_, kp := F.kp.step hkp (fun k e => by subst e; exact hg) }
 ·have hne : k ≠ b := fun e' => by subst e'; rw [hh o] at e; cases e
  have := F.sub k o v e; unfold World.cell? at this ⊢; simp only [] at this ⊢; rw [hoth k hne]; exact this
 ·exact (F.obj i o ho).carry (HLe.refl h) (fun hn => hoth _ (hb i ⟨⟨o, ho⟩, hn⟩)) (fun _ _ e => e)

theorem Zst {ρ' : Nat → Loc} {id i : Nat} (hρ : ∀ i, i ≠ id → ρ' i = ρ i) (hi : live (st.drop id).objs ρ' i) : i ≠ id ∧ live st.objs ρ i := by
 obtain ⟨⟨o, e⟩, hn⟩ := hi; obtain ⟨o', e', rfl⟩ := Zaj e; obtain ⟨hne, e''⟩ := Zai e'; rw [hρ i hne] at hn; exact ⟨hne, ⟨o', e''⟩, hn⟩

theorem Zka (F : FitsAt X h ρ st a w) {t : TypeId} {id off n : Nat} {cs cs' : List SV} {v : Value} {y : SV} (ho : oget st.objs id = some (.box cs)) (hz : szT P t = some n)
  (hy : Rep h ρ v y) (hb : boxL (cellsOf y) = true) (hn : lenN (cellsOf y) = n) (hs : Zbs off (cellsOf y) cs = some cs') :
  ∃ w', (Instr.storeAt t (.pointer (some ⟨(ρ id).blk, off, none⟩)) v).run P w = .ok () w' ∧ FitsAt X h ρ { st with objs := oput st.objs id (.box cs') } a w' ∧
   w.heap.size ≤ w'.heap.size ∧ ∀ b, b ≠ (ρ id).blk → w'.heap[b]? = w.heap[b]? := by
 obtain ⟨hn0, ⟨cur, ty, hcur, hsz, hcell⟩, hno⟩ := F.obj id _ ho; obtain ⟨hvs, hvc⟩ := Zer hy hb; obtain ⟨hle, rfl⟩ := Zck _ _ _ _ hs; rw [Zbi] at hn
 have hrun := run_storeCells_at P (ρ id).blk off ty v.cells.toList 0 cur w hcur (by simp [hvs]; omega) (fun u hu => by
  obtain ⟨i, hi, e⟩ := List.mem_iff_getElem.1 hu; have hi' : i < v.cells.size := (by simpa using hi); have hlt : i < (cellsOf y).length := by omega
  exact (hvc i u _ (by rw [Array.getElem?_eq_getElem hi']; simp at e; rw [e]) (List.getElem?_eq_getElem hlt)).2)
 refine ⟨_, ?_, F.setOb id (.box cs) _ (w.setRow (ρ id).blk (cur.toList.take (off + 0) ++ v.cells.toList ++ cur.toList.drop (off + 0 + v.cells.toList.length)).toArray) ho hn0 ⟨hn0, ⟨_, ty, setRow_heap w _ cur _ ty _ hcur, ?_, ?_⟩, hno⟩
  (fun b hb => setRow_other _ _ _ _ hb) (Zb5 _ _ _), by simp, fun b hb => setRow_other _ _ _ _ hb⟩
 ·simp only [Instr.storeAt, Instr.sureAddr, storeVar, Sem.run_bind, Sem.run_pure, Result.andThen_ok, run_sizeOf' w hz]; have : ¬ (v.cells.size ≠ n) := by rw [hvs, hn]; simp
  simp only [this, if_false]; exact hrun
 ·simp [hvs]; omega
 ·intro i u c hu hc; simp only [List.getElem?_toArray, Nat.add_zero, Array.length_toList] at hu; rw [List.getElem?_append] at hu hc; have l1 : (List.take off cur.toList ++ v.cells.toList).length = off + (cellsOf y).length := by simp [hvs]; omega
  have l2 : (List.take off cs ++ cellsOf y).length = off + (cellsOf y).length := (by simp; omega); rw [l1] at hu; rw [l2] at hc; by_cases h1 : i < off + (cellsOf y).length
  ·rw [if_pos h1] at hu hc; rw [List.getElem?_append] at hu hc; have l3 : (List.take off cur.toList).length = off := by simp; omega
   have l4 : (List.take off cs).length = off := (by simp; omega); rw [l3] at hu; rw [l4] at hc; by_cases h2 : i < off
   ·rw [if_pos h2] at hu hc; rw [List.getElem?_take, if_pos h2] at hu hc; exact hcell i u c (by simpa using hu) hc
   ·rw [if_neg h2] at hu hc; exact hvc _ u c (by simpa using hu) hc
  ·rw [if_neg h1] at hu hc; rw [List.getElem?_drop] at hu hc; rw [hvs] at hu; exact hcell _ u c (by simpa using hu) hc

/- Handing on for good. -/

def frzH (h : Hp) (w : World) (l : Loc) (n : Nat) : Hp := fun b o => if b = l.blk ∧ l.off ≤ o ∧ o < l.off + n then w.cell? ⟨b, o, none⟩ else h b o

theorem Zkb {i n j sz : Nat} (hi : i < n) (hj : j < sz) : i * sz + j < n * sz := by
 have : (i + 1) * sz ≤ n * sz := Nat.mul_le_mul_right sz (by omega); rw [Nat.add_mul] at this; omega

theorem Zsu {l : Loc} {sz : Nat} {rows : List (List SV)} (hle : HLe h (frzH h w l (rows.length * sz))) (o : OwnOK h w l sz rows) :
  PRep (frzH h w l (rows.length * sz)) (.slice (some ⟨l.blk, l.off, none⟩) l.len l.cap) (.slice sz rows 0) := by
 obtain ⟨cs, t, fz, hc, hs, hf, hv⟩ := o.hblk; rw [o.hlen]; refine .slice l.blk l.off l.cap sz rows 0 (fun i j => (cs[l.off + i * sz + j]?).getD undef) o.pos o.hrow (fun i r j c h1 h2 => ?_) (fun i r j c h1 h2 => ?_) (fun i r j c h1 h2 => ?_) (by omega) (by omega) o.hcap
 ·obtain ⟨v, e1, _⟩ := hv i r j c h1 h2; have hi := (List.getElem?_eq_some_iff.1 h1).1; have hj := (List.getElem?_eq_some_iff.1 h2).1; rw [o.hrow i r h1] at hj; have := Zkb hi hj
  have hcond : l.off ≤ l.off + i * sz + j ∧ l.off + i * sz + j < l.off + rows.length * sz := ⟨by omega, by omega⟩
  simp only [frzH, hcond, and_self, if_true, e1, Option.getD_some]; simp [World.cell?, hc, e1]
 ·obtain ⟨v, e1, e2, _⟩ := hv i r j c h1 h2; simp only [e1, Option.getD_some]; exact e2.mono hle
 ·obtain ⟨v, e1, _, e3⟩ := hv i r j c h1 h2; simp only [e1, Option.getD_some]; exact e3

theorem FitsAt.frz (F : FitsAt X h ρ st a w) (id : Nat) : ∃ h', HLe h h' ∧ FitsAt X h' ρ (st.frz id) a w := by
 unfold St.frz
 split
 ·rename_i sz rows ho; have hob := F.obj id _ ho
  -- what h becomes
  have key : ∃ h', HLe h h' ∧ HSub h' w ∧ (∀ b, b ≠ (ρ id).blk ∨ (ρ id).none = true → ∀ o, h' b o = h b o) ∧ ∀ v, Rep h ρ v (.osl id) → PRep h' v (.slice sz rows 0) := by
   rcases hob with ⟨hn, rfl⟩ | ⟨hn, o⟩
   ·refine ⟨h, HLe.refl h, F.sub, fun _ _ _ => rfl, fun v r => ?_⟩
    rcases r.osl_inv with ⟨_, p, rfl⟩ | ⟨hn', _⟩
    ·exact .empty p 0 sz 0 (by omega) (by omega) (fun _ => rfl)
    ·rw [hn] at hn'; cases hn'
   ·have hle : HLe h (frzH h w (ρ id) (rows.length * sz)) := fun b x v e => by
     have hb : b ≠ (ρ id).blk := fun e' => by subst e'; rw [o.hh] at e; cases e
     simp [frzH, hb, e]
    refine ⟨frzH h w (ρ id) (rows.length * sz), hle, fun b x v e => ?_, fun b hb x => ?_, fun v r => ?_⟩
    ·unfold frzH at e
     split at e
     ·exact e
     ·exact F.sub b x v e
    ·rcases hb with hb | hb
     ·simp [frzH, hb]
     ·rw [hn] at hb; cases hb
    ·rcases r.osl_inv with ⟨hn', _⟩ | ⟨_, rfl⟩
     ·rw [hn] at hn'; cases hn'
     ·exact Zsu hle o
  obtain ⟨h', hle, hsub, hsame, hsl⟩ := key
  have hrep : ∀ v s, Rep h ρ v s → Rep h' ρ v (hmap (frzG id sz rows) s) := fun v s r => r.turn fun v s hs r => by
   cases r with
   | pure _ _ hp =>
    have : frzG id sz rows s = s := by cases hp <;> first | rfl | (simp [Zbx] at hs)
    rw [this]; exact .pure _ _ (hp.mono hle)
   | agg => simp [Zbx] at hs
   | tup => simp [Zbx] at hs
   | ptr i off => exact .ptr i off
   | bsl i off n => exact .bsl i off n
   | osl0 i p hn =>
    by_cases hi : i = id
    ·subst hi; simp only [frzG, Nat.beq_refl, cond_true]; exact .pure _ _ (hsl _ (.osl0 i p hn))
    ·simp only [frzG, Zaq hi, cond_false]; exact .osl0 i p hn
   | osl i hn =>
    by_cases hi : i = id
    ·subst hi; simp only [frzG, Nat.beq_refl, cond_true]; exact .pure _ _ (hsl _ (.osl i hn))
    ·simp only [frzG, Zaq hi, cond_false]; exact .osl i hn
   | eptr i e j off hn =>
    by_cases hi : i = id
    ·subst hi; simp only [frzG, Nat.beq_refl, cond_true]; exact .pure _ _ (.unk _)
    ·simp only [frzG, Zaq hi, cond_false]; exact .eptr i e j off hn
   | osv i l hh c p h0 h1 h2 hc hp =>
    by_cases hi : i = id
    ·subst hi; simp only [frzG, Nat.beq_refl, cond_true]; exact .pure _ _ (.unk _)
    ·simp only [frzG, Zaq hi, cond_false]; exact .osv i l hh c p h0 h1 h2 hc hp
   | omp i => exact .omp i
   | aptr i n => exact .aptr i n
   | asl i l hh cap => exact .asl i l hh cap
  refine ⟨h', hle, F.turn _ _ hrep (fun i o e => ?_) (fun i hi => ?_) hsub hle (fun b hb hg x e => ?_) F.kp (fun _ _ => rfl)⟩
  ·obtain ⟨o', e', rfl⟩ := Zaj e; obtain ⟨hne, e''⟩ := Zai e'; refine (F.obj i o' e'').turn hrep hle rfl (fun _ => rfl) (fun hn x e => ?_); rw [hsame]
   ·exact e
   ·by_cases hn' : (ρ id).none = true
    ·exact .inr hn'
    ·exact .inl (F.inj i id ⟨⟨o', e''⟩, hn⟩ ⟨⟨_, ho⟩, by simpa using hn'⟩ hne)
  ·obtain ⟨⟨o, e⟩, hn⟩ := hi; obtain ⟨o', e', rfl⟩ := Zaj e; obtain ⟨hne, e''⟩ := Zai e'; exact ⟨⟨⟨o', e''⟩, hn⟩, rfl⟩
  ·rw [hsame]
   ·exact e
   ·by_cases hn' : (ρ id).none = true
    ·exact .inr hn'
    ·refine .inl fun eb => ?_; subst eb
     rcases F.own id ⟨⟨_, ho⟩, by simpa using hn'⟩ with h1 | h1
     ·omega
     ·exact hg h1
 ·exact ⟨h, HLe.refl h, F⟩

theorem FitsAt.frzAll : ∀ (ids : List Nat) {st : St} {h : Hp}, FitsAt X h ρ st a w → ∃ h', HLe h h' ∧ FitsAt X h' ρ (St.frzAll ids st) a w
 | [], st, h, F => ⟨h, HLe.refl h, F⟩
 | id :: ids, st, h, F => by obtain ⟨h1, hle1, F1⟩ := F.frz id; obtain ⟨h2, hle2, F2⟩ := FitsAt.frzAll ids F1; exact ⟨h2, hle1.trans hle2, F2⟩

theorem Zb2 {v : Value} {s s' : SV} (r : Rep h ρ v s) (hp : Zau s = some s') : PRep h v s' := by
 cases r with
 | pure _ _ hr =>
  cases hr with
  | val v => cases v <;> simp [Zau] at hp <;> subst hp <;> exact .val _
  | agg => simp [Zau] at hp
  | empty p cap sz tok ht h1 hn => simp [Zau] at hp; subst hp; exact .empty p cap _ 0 (by omega) (by omega) hn
  | slice b off cap sz rows tok vs hpos hz hh hr ho ht h1 hle => simp [Zau] at hp; subst hp; exact .slice b off cap sz rows 0 vs hpos hz hh hr ho (by omega) (by omega) hle
  | ref b base off cells vs hh hr => simp [Zau] at hp; subst hp; exact .ref b base off cells vs hh hr
  | clo f vs cs hl hc => simp [Zau] at hp; subst hp; exact .clo f vs cs hl hc
  | ifc t v s hv => simp [Zau] at hp; subst hp; exact .ifc t v s hv
  | arr => simp [Zau] at hp
  | unk => simp [Zau] at hp
 | agg => simp [Zau] at hp
 | tup => simp [Zau] at hp
 | ptr => simp [Zau] at hp
 | bsl => simp [Zau] at hp
 | osl0 => simp [Zau] at hp
 | osl => simp [Zau] at hp
 | eptr => simp [Zau] at hp
 | osv => simp [Zau] at hp
 | omp => simp [Zau] at hp
 | aptr => simp [Zau] at hp
 | asl => simp [Zau] at hp

theorem Zdn : ∀ (cs cs' : List SV), pureL cs = some cs' → cs'.length = cs.length ∧
  ∀ (i : Nat) c', cs'[i]? = some c' → ∃ c, cs[i]? = some c ∧ Zau c = some c'
 | [], cs', h => by simp [pureL] at h; subst h; simp
 | c :: cs, cs', h => by
  simp only [pureL] at h
  split at h
  ·rename_i c1 cs1 h1 h2
   cases h
   obtain ⟨l, g⟩ := Zdn cs cs1 h2; refine ⟨by simp [l], fun i c' hc => ?_⟩
   cases i with
   | zero => simp at hc; subst hc; exact ⟨c, by simp, h1⟩
   | succ i => simpa using g i c' (by simpa using hc)
  ·cases h

theorem Zhk {v : Value} {s s' : SV} (r : Rep h ρ v s) (hp : Zdv s = some s') : PRep h v s' := by
 unfold Zdv at hp
 split at hp
 ·rename_i cs; simp at hp; obtain ⟨cs', hcs, rfl⟩ := hp; obtain ⟨l, g⟩ := Zdn _ _ hcs; obtain ⟨vs, rfl, hl, hc⟩ := r.agg_inv'; refine .agg vs cs' (by omega) fun i u c hu hc' => ?_; obtain ⟨c0, h0, h1⟩ := g i c hc'; exact Zb2 (hc i u c0 hu h0) h1
 ·exact Zb2 r hp

theorem Zmp {v : Value} {s s' : SV} (r : Rep h ρ v s) (hp : Zpd s = some s') : PRep h v s' := by
 unfold Zpd at hp
 split at hp
 ·cases hp
  cases r with
  | pure _ _ hp => exact hp
 ·exact Zhk r hp

theorem FitsAt.frzBox (F : FitsAt X h ρ st a w) (id : Nat) {st' : St} (hs : st.frzBox id = some st') : ∃ h', HLe h h' ∧ FitsAt X h' ρ st' a w := by
 unfold St.frzBox at hs
 split at hs
 ·rename_i cs ho
  split at hs
  ·rename_i cs' hcs
   cases hs
   obtain ⟨hn, ⟨cv, t, hblk, hsz, hcell⟩, hno⟩ := F.obj id _ ho; obtain ⟨hl, hget⟩ := Zdn _ _ hcs
   let h' : Hp := fun b o => if b = (ρ id).blk then w.cell? ⟨b, o, none⟩ else h b o
   have hle : HLe h h' := fun b o v e => by
    have hb : b ≠ (ρ id).blk := fun e' => by subst e'; rw [hno] at e; cases e
    simp [h', hb, e]
   have hsub : HSub h' w := fun b o v e => by
    simp only [h'] at e
    split at e
    ·exact e
    ·exact F.sub b o v e
   have hsame : ∀ b, b ≠ (ρ id).blk → ∀ o, h' b o = h b o := fun b hb o => by simp [h', hb]
   have hcellv : ∀ (j : Nat) c, cs'[j]? = some c → ∃ v, cv[j]? = some v ∧ PRep h v c := fun j c hc => by
    obtain ⟨c0, h0, h1⟩ := hget j c hc; have hj : j < cv.size := by rw [hsz]; exact (List.getElem?_eq_some_iff.1 h0).1
    exact ⟨cv[j], Array.getElem?_eq_getElem hj, Zb2 (hcell j _ c0 (Array.getElem?_eq_getElem hj) h0).1 h1⟩
   have hrep : ∀ v s, Rep h ρ v s → Rep h' ρ v (hmap (frzBG id cs') s) := fun v s r => r.turn fun v s hs r => by
    cases r with
    | pure _ _ hp =>
     have : frzBG id cs' s = s := by cases hp <;> first | rfl | (simp [Zbx] at hs)
     rw [this]; exact .pure _ _ (hp.mono hle)
    | agg => simp [Zbx] at hs
    | tup => simp [Zbx] at hs
    | ptr i off =>
     by_cases hi : i = id
     ·subst hi; simp only [frzBG, Nat.beq_refl, cond_true]
      have := PRep.ref (h := h') (ρ i).blk 0 off cs' (fun j => (cv[j]?).getD undef) (fun j c hc => by
       obtain ⟨v, e1, _⟩ := hcellv j c hc; simp only [h', if_true, Nat.zero_add, e1, Option.getD_some]
       simp [World.cell?, hblk, e1]) (fun j c hc => by
       obtain ⟨v, e1, e2⟩ := hcellv j c hc
       simp only [e1, Option.getD_some]; exact e2.mono hle)
      rw [Nat.zero_add] at this; exact .pure _ _ this
     ·simp only [frzBG, Zaq hi, cond_false]; exact .ptr i off
    | bsl i off n =>
     by_cases hi : i = id
     ·subst hi; simp only [frzBG, Nat.beq_refl, cond_true]; exact .pure _ _ (.unk _)
     ·simp only [frzBG, Zaq hi, cond_false]; exact .bsl i off n
    | osl0 i p hn => exact .osl0 i p hn
    | osl i hn => exact .osl i hn
    | eptr i e j off hn => exact .eptr i e j off hn
    | osv i l hh c p h0 h1 h2 hc hp => exact .osv i l hh c p h0 h1 h2 hc hp
    | omp i => exact .omp i
    | aptr i n => exact .aptr i n
    | asl i l hh cap => exact .asl i l hh cap
   refine ⟨h', hle, F.turn _ _ hrep (fun i o e => ?_) (fun i hi => ?_) hsub hle (fun b hb hg x e => ?_) F.kp (fun _ _ => rfl)⟩
   ·obtain ⟨o', e', rfl⟩ := Zaj e; obtain ⟨hne, e''⟩ := Zai e'; refine (F.obj i o' e'').turn hrep hle rfl (fun _ => rfl) (fun hni x e => ?_); rw [hsame]
    ·exact e
    ·exact F.inj i id ⟨⟨o', e''⟩, hni⟩ ⟨⟨_, ho⟩, hn⟩ hne
   ·obtain ⟨⟨o, e⟩, hn⟩ := hi; obtain ⟨o', e', rfl⟩ := Zaj e; obtain ⟨hne, e''⟩ := Zai e'; exact ⟨⟨⟨o', e''⟩, hn⟩, rfl⟩
   ·rw [hsame]
    ·exact e
    ·intro eb; subst eb
     rcases F.own id ⟨⟨_, ho⟩, hn⟩ with h1 | h1
     ·omega
     ·exact hg h1
  ·cases hs
 ·cases hs

theorem FitsAt.frzBoxes : ∀ (ids : List Nat) {st st' : St} {h : Hp}, FitsAt X h ρ st a w → St.frzBoxes ids st = some st' → ∃ h', HLe h h' ∧ FitsAt X h' ρ st' a w
 | [], st, st', h, F, e => by simp [St.frzBoxes] at e; subst e; exact ⟨h, HLe.refl h, F⟩
 | id :: ids, st, st', h, F, e => by
  simp only [St.frzBoxes] at e
  split at e
  ·rename_i cs ho
   split at e
   ·rename_i s1 hs1; obtain ⟨h1, l1, F1⟩ := F.frzAll (Zfb cs); obtain ⟨h2, l2, F2⟩ := F1.frzBox id hs1; obtain ⟨h3, l3, F3⟩ := FitsAt.frzBoxes ids F2 e; exact ⟨h3, (l1.trans l2).trans l3, F3⟩
   ·cases e
  ·cases e

end

theorem Zd4 {l : List (Nat × Ob)} {c : Nat} {o : Ob} (e : oget l c = some o) : (c, o) ∈ l := by
 induction l with
 | nil => simp [oget] at e
 | cons x xs ih =>
  obtain ⟨k, p⟩ := x; rw [Zbp] at e
  split at e
  ·rename_i h; subst h; cases e; simp
  ·simp [ih e]

def Pulls (ids : List (Option Nat × Nat)) (ρ ρ' : Nat → Loc) : Prop :=
 ∀ p ∈ ids, match p.1 with
  | some id => ρ' p.2 = ρ id
  | none => (ρ' p.2).none = true

theorem Pulls.left {l1 l2 : List (Option Nat × Nat)} {ρ ρ' : Nat → Loc} (h : Pulls (l1 ++ l2) ρ ρ') : Pulls l1 ρ ρ' := fun p hp => h p (by simp [hp])
theorem Pulls.right {l1 l2 : List (Option Nat × Nat)} {ρ ρ' : Nat → Loc} (h : Pulls (l1 ++ l2) ρ ρ') : Pulls l2 ρ ρ' := fun p hp => h p (by simp [hp])

def pull : List (Option Nat × Nat) → (Nat → Loc) → (Nat → Loc) → Nat → Loc
 | [], ρ, ρ0, c => ρ0 c
 | (o, k) :: l, ρ, ρ0, c => if k = c then (match o with | some id => ρ id | none => noLoc) else pull l ρ ρ0 c

theorem Zbm : ∀ {l : List Nat}, Zcd l = true → l.Nodup
 | [], _ => List.nodup_nil
 | x :: xs, h => by simp only [Zcd, Bool.and_eq_true, Bool.not_eq_true', List.any_eq_false] at h; refine List.nodup_cons.2 ⟨fun hm => ?_, Zbm h.2⟩; have := h.1 x hm; simp at this

theorem Zf4 (ρ ρ0 : Nat → Loc) : ∀ {ids : List (Option Nat × Nat)}, (ids.map (·.2)).Nodup → Pulls ids ρ (pull ids ρ ρ0)
 | [], _ => by intro p hp; simp at hp
 | (o, k) :: l, h => by
  simp only [List.map_cons, List.nodup_cons] at h; intro p hp
  rcases List.mem_cons.1 hp with rfl | hp
  ·cases o with
   | none => simp [pull, noLoc]
   | some id => simp [pull]
  ·have hne : k ≠ p.2 := fun e => h.1 (by rw [e]; exact List.mem_map_of_mem hp); have := Zf4 ρ ρ0 h.2 p hp; simp only [pull, if_neg hne]; exact this

theorem Zll (ρ ρ0 : Nat → Loc) : ∀ {ids : List (Option Nat × Nat)} {c : Nat}, (∀ p ∈ ids, p.2 ≠ c) → pull ids ρ ρ0 c = ρ0 c
 | [], c, _ => rfl
 | (o, k) :: l, c, h => by have := h (o, k) (by simp); simp only at this; simp only [pull, if_neg this]; exact Zll ρ ρ0 (fun p hp => h p (by simp [hp]))

section
variable {h : Hp} {ρ ρ' : Nat → Loc} {objs : List (Nat × Ob)} {w : World} {P : Program}

structure PassOK (objs : List (Nat × Ob)) (h : Hp) (ρ' : Nat → Loc) (w : World) (ids : List (Option Nat × Nat)) (os : List (Nat × Ob)) : Prop where
 ob : ∀ c o, (c, o) ∈ os → ObOK h ρ' w c o
 at_ : ∀ c o, (c, o) ∈ os → ∃ p ∈ ids, p.2 = c
 here : ∀ id c, (some id, c) ∈ ids → ∃ o, oget objs id = some o

theorem PassOK.nil : PassOK objs h ρ' w [] [] := ⟨by simp, by simp, by simp⟩

theorem PassOK.append {l1 l2 : List (Option Nat × Nat)} {o1 o2 : List (Nat × Ob)} (a : PassOK objs h ρ' w l1 o1) (b : PassOK objs h ρ' w l2 o2) : PassOK objs h ρ' w (l1 ++ l2) (o1 ++ o2) where
 ob := fun c o hm => (List.mem_append.1 hm).elim (a.ob c o) (b.ob c o)
 at_ := fun c o hm => by
  rcases List.mem_append.1 hm with hm | hm
  ·obtain ⟨p, hp, e⟩ := a.at_ c o hm; exact ⟨p, by simp [hp], e⟩
  ·obtain ⟨p, hp, e⟩ := b.at_ c o hm; exact ⟨p, by simp [hp], e⟩
 here := fun id c hm => (List.mem_append.1 hm).elim (a.here id c) (b.here id c)

theorem Zkc (t : TypeId) (sz : Nat) (rows : List (List SV)) (tok : Nat) : ∃ sz', fixSz P t (.slice sz rows tok) = .slice sz' rows tok ∧ (sz' = sz ∨ sz = 0) := by
 unfold fixSz
 split
 ·rename_i e sz1 rows1 tok1 hu heq
  cases heq
  refine ⟨_, rfl, ?_⟩
  cases hb : Nat.beq sz 0 with
  | false => exact .inl rfl
  | true => exact .inr (Nat.eq_of_beq_eq_true hb)
 ·exact ⟨sz, rfl, .inl rfl⟩

theorem Zro (t : TypeId) (es : List (ByteArray × Int)) : fixSz P t (.mapv es) = .mapv es := by
 unfold fixSz
 split <;> simp_all

theorem Ze5 (hob : ∀ id o, oget objs id = some o → ObOK h ρ w id o) {cid : Nat} {s d : SV} {ids : List (Option Nat × Nat)} (e : Zft objs cid s = some (d, ids)) (hp : Pulls ids ρ ρ') (t : TypeId) :
  ∃ hd o, ownH cid (fixSz P t d) = some (hd, o) ∧ (∀ v, Rep h ρ v s → Rep h ρ' v hd ∧ v.oneCell' = true) ∧ PassOK objs h ρ' w ids [(cid, o)] ∧ (∀ cs, o ≠ .box cs) ∧ (∀ t b x, hd ≠ .gd t b x) := by
 unfold Zft at e
 split at e
 ·rename_i id
  split at e
  ·rename_i sz rows ho
   cases e
   obtain ⟨sz', hf, hz⟩ := Zkc (P := P) t sz rows 0; have hloc : ρ' cid = ρ id := hp (some id, cid) (by simp); have ob := hob id _ ho; rw [hf]; refine ⟨.osl cid, .own sz' rows, rfl, fun v r => ?_, ⟨fun c o hm => ?_, fun c o hm => ?_, fun i c hm => ?_⟩, by simp, by simp⟩
   ·rcases r.osl_inv with ⟨hn, p, rfl⟩ | ⟨hn, rfl⟩
    ·exact ⟨.osl0 cid p (by rw [hloc]; exact hn), rfl⟩
    ·refine ⟨?_, rfl⟩; rw [← hloc] at hn ⊢; exact .osl cid hn
   ·simp at hm; obtain ⟨rfl, rfl⟩ := hm
    rcases ob with ⟨hn, rfl⟩ | ⟨hn, o⟩
    ·exact .inl ⟨by rw [hloc]; exact hn, rfl⟩
    ·have hzz : sz' = sz := hz.resolve_right (by have := o.pos; omega); subst hzz; exact .inr ⟨by rw [hloc]; exact hn, by rw [hloc]; exact o⟩
   ·simp at hm; exact ⟨(some id, cid), by simp, hm.1.symm⟩
   ·simp at hm; rw [hm.1]; exact ⟨_, ho⟩
  ·cases e
 ·rename_i id
  split at e
  ·rename_i es ho
   cases e
   have hloc : ρ' cid = ρ id := hp (some id, cid) (by simp); obtain ⟨hn, ⟨ents, cl, hb, hm⟩, hno⟩ := hob id _ ho; rw [Zro]; refine ⟨.omp cid, .mp es, rfl, fun v r => ?_, ⟨fun c o hm' => ?_, fun c o hm' => ?_, fun i c hm' => ?_⟩, by simp, by simp⟩
   ·rw [r.omp_inv, ← hloc]; exact ⟨.omp cid, rfl⟩
   ·simp at hm'; obtain ⟨rfl, rfl⟩ := hm'; exact ⟨by rw [hloc]; exact hn, ⟨ents, cl, by rw [hloc]; exact hb, hm⟩, by rw [hloc]; exact hno⟩
   ·simp at hm'; exact ⟨(some id, cid), by simp, hm'.1.symm⟩
   ·simp at hm'; rw [hm'.1]; exact ⟨_, ho⟩
  ·cases e
 ·rename_i sz
  cases e
  obtain ⟨sz', hf, _⟩ := Zkc (P := P) t sz [] 0; have hloc : (ρ' cid).none = true := hp (none, cid) (by simp); rw [hf]; refine ⟨.osl cid, .own sz' [], rfl, fun v r => ?_, ⟨fun c o hm => ?_, fun c o hm => ?_, fun i c hm => ?_⟩, by simp, by simp⟩
  ·cases r with
   | pure _ _ hp' => cases hp' with
    | empty p cap _ _ ht h1 hn => have := h1 rfl; subst this; exact ⟨.osl0 cid p hloc, rfl⟩
    | slice b off cap _ rows tok vs hpos hz hh hr ho ht h1 hle => have := h1 rfl; subst this; exact ⟨.osl0 cid _ hloc, rfl⟩
  ·simp at hm; obtain ⟨rfl, rfl⟩ := hm; exact .inl ⟨hloc, rfl⟩
  ·simp at hm; exact ⟨(none, cid), by simp, hm.1.symm⟩
  ·simp at hm
 ·cases e

def fix0 (P : Program) (ts : List TypeId) (d : SV) : SV :=
 match ts with
 | [] => d
 | t :: _ => fixSz P t d

theorem Zdo (hob : ∀ id o, oget objs id = some o → ObOK h ρ w id o) (cid : Nat) : ∀ (cs : List SV) (j : Nat) (ms : List Bool) (ts : List TypeId) (ds : List SV) (ids : List (Option Nat × Nat)),
  Zba objs cid j ms cs = some (ds, ids) → Pulls ids ρ ρ' →
  ∃ cs' os, Za6 cid j ms (fixL' P ts ds) = some (cs', os) ∧ cs'.length = cs.length ∧ (∀ (i : Nat) v c c', cs[i]? = some c → cs'[i]? = some c' → Rep h ρ v c → Rep h ρ' v c') ∧
   PassOK objs h ρ' w ids os ∧ (∀ c o, (c, o) ∈ os → ∀ x, o ≠ .box x) ∧ (∀ (i : Nat) c', cs'[i]? = some c' → ∀ t b x, c' ≠ .gd t b x)
 | [], j, ms, ts, ds, ids, e, hp => by
  simp [Zba] at e; obtain ⟨rfl, rfl⟩ := e; have : fixL' P ts [] = [] := by cases ts <;> rfl
  rw [this]; exact ⟨[], [], rfl, rfl, by simp, PassOK.nil, by simp, by simp⟩
 | c :: cs, j, ms, ts, ds, ids, e, hp => by
  simp only [Zba] at e
  split at e
  ·rename_i d l ds' ls h1 h2
   cases e
   obtain ⟨cs', os, e1, e2, e3, e4, e5, e6⟩ := Zdo hob cid cs (j + 1) ms.tail ts.tail ds' ls h2 hp.right
   have hfix : fixL' P ts (d :: ds') = (fix0 P ts d) :: fixL' P ts.tail ds' := by
    cases ts with
    | nil => simp [fixL', fix0]
    | cons t ts => simp [fixL', fix0]
   rw [hfix]
   cases hm : ms.headD false with
   | true =>
    simp only [hm, cond_true] at h1
    have key : ∃ hd o, ownH (Zhr cid ms j) (fix0 P ts d) = some (hd, o) ∧ (∀ v, Rep h ρ v c → Rep h ρ' v hd ∧ v.oneCell' = true) ∧ PassOK objs h ρ' w l [(Zhr cid ms j, o)] ∧ (∀ cs, o ≠ .box cs) ∧ (∀ t b x, hd ≠ .gd t b x) := by
     cases ts with
     | cons t ts => exact Ze5 (P := P) hob h1 hp.left t
     | nil =>
      -- a type that fixes nothing: the empty program's
      obtain ⟨hd, o, g1, g2⟩ := Ze5 (P := (default : Program)) hob h1 hp.left 0
      have hid : fixSz (default : Program) 0 d = d := by
       unfold fixSz
       split
       ·rename_i e _ _ _ hu; have : (default : Program).underlying 0 = none := (by rfl); rw [this] at hu; cases hu
       ·rfl
      rw [hid] at g1; exact ⟨hd, o, g1, g2⟩
    obtain ⟨hd, o, g1, g2, g3, g4, g5⟩ := key; refine ⟨hd :: cs', (Zhr cid ms j, o) :: os, by simp only [Za6, e1, hm, cond_true, g1], by simp [e2], fun i v x x' hx hx' r => ?_, g3.append e4, fun x o' hm' => ?_, fun i c' hc' => ?_⟩
    ·cases i with
     | zero => simp at hx hx'; subst hx; subst hx'; exact (g2 v r).1
     | succ i => exact e3 i v x x' (by simpa using hx) (by simpa using hx') r
    ·rcases List.mem_cons.1 hm' with e' | hm'
     ·cases e'; exact g4
     ·exact e5 x o' hm'
    ·cases i with
     | zero => simp at hc'; subst hc'; exact g5
     | succ i => exact e6 i c' (by simpa using hc')
   | false =>
    simp only [hm, cond_false] at h1
    cases hpc : Zau c with
    | none => simp [hpc] at h1
    | some c1 =>
     simp [hpc] at h1; obtain ⟨rfl, rfl⟩ := h1; refine ⟨fix0 P ts c1 :: cs', os, by simp only [Za6, e1, hm, cond_false], by simp [e2], fun i v x x' hx hx' r => ?_, by simpa using e4, e5, fun i c' hc' => ?_⟩
     ·cases i with
      | zero =>
       simp at hx hx'; subst hx; have hpr := Zb2 r hpc
       cases ts with
       | nil => simp [fix0] at hx'; subst hx'; exact .pure _ _ hpr
       | cons t ts => simp [fix0] at hx'; subst hx'; exact .pure _ _ (Ze4 t hpr)
      | succ i => exact e3 i v x x' (by simpa using hx) (by simpa using hx') r
     ·cases i with
      | zero =>
       simp at hc'
       have hng : ∀ t b x, c1 ≠ .gd t b x := by
        intro t b x e'; subst e'
        cases c <;> simp [Zau] at hpc
        rename_i v; cases v <;> simp at hpc
       cases ts with
       | nil => simp [fix0] at hc'; subst hc'; exact hng
       | cons t ts =>
        simp [fix0] at hc'; subst hc'; intro t' b x e'; unfold fixSz at e'
        split at e'
        ·cases e'
        ·exact hng _ _ _ e'
      | succ i => exact e6 i c' (by simpa using hc')
  ·cases e

theorem fixL'_get : ∀ (ts : List TypeId) (cs : List SV), (fixL' P ts cs).length = cs.length ∧ ∀ (i : Nat) c', (fixL' P ts cs)[i]? = some c' → ∃ c t, cs[i]? = some c ∧ (c' = c ∨ c' = fixSz P t c)
 | [], cs => by simp only [fixL']; exact ⟨trivial, fun i c' h => ⟨c', 0, h, .inl rfl⟩⟩
 | t :: ts, [] => by simp [fixL']
 | t :: ts, c :: cs => by
  obtain ⟨l, g⟩ := fixL'_get ts cs; simp only [fixL']; refine ⟨by simp [l], fun i c' h => ?_⟩
  cases i with
  | zero => simp at h; exact ⟨c, t, by simp, .inr h.symm⟩
  | succ i => simpa using g i c' (by simpa using h)

theorem Zo1 {v : Value} {s : SV} (t : TypeId) (r : PRep h v s) : PRep h v (normT P t s) := by
 unfold normT
 split
 ·rename_i cs
  cases r with
  | agg vs _ hl hc =>
   obtain ⟨l, g⟩ := fixL'_get (P := P) (Zdr P 8 t) cs; refine .agg vs _ (by omega) fun i u c hu hc' => ?_; obtain ⟨c0, t0, e, h1⟩ := g i c hc'; have := hc i u c0 hu e
   rcases h1 with rfl | rfl
   ·exact this
   ·exact Ze4 t0 this
 ·exact Ze4 t r

theorem Rep.ptr_inv {v : Value} {id off : Nat} (r : Rep h ρ v (.ptr id off)) : v = .pointer (some ⟨(ρ id).blk, off, none⟩) := by
 cases r with
 | pure _ _ hp => cases hp
 | ptr => rfl

theorem Zhl (hob : ∀ id o, oget objs id = some o → ObOK h ρ w id o) {cid : Nat} {m : Md} {s d : SV} {ids : List (Option Nat × Nat)} (t : TypeId) (e : Zfu objs cid m s = some (d, ids)) (hp : Pulls ids ρ ρ') :
  ∃ hd os, argH cid m (normM P m t d) = some (hd, os) ∧ (∀ v, Rep h ρ v s → Rep h ρ' v hd) ∧ PassOK objs h ρ' w ids os := by
 unfold Zfu at e
 cases m with
 | pure => simp at e; obtain ⟨d', hd', rfl, rfl⟩ := e; exact ⟨_, [], rfl, fun v r => .pure _ _ (by simp only [normM]; exact Zo1 t (Zmp r hd')), PassOK.nil⟩
 | own =>
  simp only [] at e
  have hnorm : normM P .own t d = fixSz P t d := by
   unfold Zft at e; simp only [normM]; unfold normT
   split
   ·split at e
    ·split at e <;> simp at e
    ·split at e <;> simp at e
    ·simp at e
    ·cases e
   ·rfl
  obtain ⟨hd, o, g1, g2, g3, _, _⟩ := Ze5 (P := P) hob e hp t; refine ⟨hd, [(cid, o)], ?_, fun v r => (g2 v r).1, g3⟩; rw [hnorm]; simp [argH, g1]
 | lend ms =>
  simp only [] at e
  split at e
  ·rename_i id
   split at e
   ·rename_i cs ho; simp at e; obtain ⟨ds, ids', hpc, rfl, rfl⟩ := e; have hp' : Pulls ids' ρ ρ' := fun p hp0 => hp p (by simp [hp0]); have hloc : ρ' cid = ρ id := hp (some id, cid) (by simp); obtain ⟨cs', os, e1, e2, e3, e4, e5, _⟩ := Zdo (P := P) hob cid cs 0 ms (Zdr P 8 (datT P (.lend ms) t)) ds ids' hpc hp'; obtain ⟨hn, ⟨cv, ty, hb, hsz, hcell⟩, hno⟩ := hob id _ ho; refine ⟨.ptr cid 0, (cid, .box cs') :: os, by simp [normM, argH, e1], fun v r => ?_, ⟨fun c o hm => ?_, fun c o hm => ?_, fun i c hm => ?_⟩⟩
    ·rw [r.ptr_inv, ← hloc]; exact .ptr cid 0
    ·rcases List.mem_cons.1 hm with e' | hm
     ·cases e'
      refine ⟨by rw [hloc]; exact hn, ⟨cv, ty, by rw [hloc]; exact hb, by rw [e2]; exact hsz, fun i v c hv hc => ?_⟩, by rw [hloc]; exact hno⟩; have hi : i < cs.length := by have := (List.getElem?_eq_some_iff.1 hc).1; omega
      obtain ⟨r1, r2⟩ := hcell i v _ hv (List.getElem?_eq_getElem hi); exact ⟨e3 i v _ c (List.getElem?_eq_getElem hi) hc r1, r2⟩
     ·exact e4.ob c o hm
    ·rcases List.mem_cons.1 hm with e' | hm
     ·cases e'; exact ⟨(some id, cid), by simp, rfl⟩
     ·obtain ⟨p, hp0, e'⟩ := e4.at_ c o hm; exact ⟨p, by simp [hp0], e'⟩
    ·rcases List.mem_cons.1 hm with e' | hm
     ·cases e'; exact ⟨_, ho⟩
     ·exact e4.here i c hm
   ·cases e
  ·cases e

theorem Zeg (hob : ∀ id o, oget objs id = some o → ObOK h ρ w id o) (idf : Nat → Nat) (ms : List Md) : ∀ (ts : List TypeId) (ss : List SV) (i : Nat) (ds : List SV) (ids : List (Option Nat × Nat)),
  Zbd P objs idf ms i ts ss = some (ds, ids) → Pulls ids ρ ρ' →
  ∃ hs os, argsH idf ms i ds = some (hs, os) ∧ hs.length = ss.length ∧ ds.length = ss.length ∧ (∀ (k : Nat) v s hd, ss[k]? = some s → hs[k]? = some hd → Rep h ρ v s → Rep h ρ' v hd) ∧ PassOK objs h ρ' w ids os
 | [], [], i, ds, ids, e, hp => by simp [Zbd] at e; obtain ⟨rfl, rfl⟩ := e; exact ⟨[], [], rfl, rfl, rfl, by simp, PassOK.nil⟩
 | [], _ :: _, i, ds, ids, e, hp => by simp [Zbd] at e
 | _ :: _, [], i, ds, ids, e, hp => by simp [Zbd] at e
 | t :: ts, s :: ss, i, ds, ids, e, hp => by
  simp only [Zbd] at e
  split at e
  ·rename_i d l ds' ls h1 h2
   cases e
   obtain ⟨hd, o1, g1, g2, g3⟩ := Zhl (P := P) hob t h1 hp.left; obtain ⟨hs, os, e1, e2, e3, e4, e5⟩ := Zeg hob idf ms ts ss (i + 1) ds' ls h2 hp.right; refine ⟨hd :: hs, o1 ++ os, by simp only [argsH, g1, e1], by simp [e2], by simp [e3], fun k v s' hd' hs' hh' r => ?_, g3.append e5⟩
   cases k with
   | zero => simp at hs' hh'; subst hs'; subst hh'; exact g2 v r
   | succ k => exact e4 k v s' hd' (by simpa using hs') (by simpa using hh') r
  ·cases e

theorem Zil (idf : Nat → Nat) (ms : List Md) : ∀ (as bs : List SV) (i : Nat) (hs : List SV) (os : List (Nat × Ob)), argsH idf ms i as = some (hs, os) → ms.length ≤ i + as.length → argsH idf ms i (as ++ bs) = some (hs ++ bs, os)
 | [], bs, i, hs, os, e, hl => by
  simp [argsH] at e; obtain ⟨rfl, rfl⟩ := e
  have : ∀ (bs : List SV) (i : Nat), ms.length ≤ i → argsH idf ms i bs = some (bs, []) := by
   intro bs
   induction bs with
   | nil => intro i _; rfl
   | cons b bs ih =>
    intro i hi
    have hm : mdAt ms i = .pure := by
     have : ∀ (ms : List Md) (i : Nat), ms.length ≤ i → mdAt ms i = .pure := by
      intro ms
      induction ms with
      | nil => intro i _; rfl
      | cons m ms ih => intro i hi; cases i with
       | zero => simp at hi
       | succ i => exact ih i (by simpa using hi)
     exact this ms i hi
    simp [argsH, hm, argH, ih (i + 1) (by omega)]
  simpa using this bs i (by simpa using hl)
 | a :: as, bs, i, hs, os, e, hl => by
  simp only [argsH] at e
  split at e
  ·rename_i hd o hs' os' h1 h2
   cases e
   have := Zil idf ms as bs (i + 1) hs' os' h2 (by simp at hl; omega); simp [argsH, h1, this]
  ·cases e

theorem Zqf {ids : List (Option Nat × Nat)} {os : List (Nat × Ob)} (hk : PassOK objs h ρ' w ids os) (hp : Pulls ids ρ ρ') (hn1 : (ids.filterMap (·.1)).Nodup)
  (hinj : ∀ i j, live objs ρ i → live objs ρ j → i ≠ j → (ρ i).blk ≠ (ρ j).blk) : ∀ i j, live os ρ' i → live os ρ' j → i ≠ j → (ρ' i).blk ≠ (ρ' j).blk := by
 have key : ∀ i, live os ρ' i → ∃ id, (some id, i) ∈ ids ∧ ρ' i = ρ id ∧ live objs ρ id := by
  rintro i ⟨⟨o, e⟩, hn⟩; obtain ⟨p, hpm, rfl⟩ := hk.at_ i o (Zd4 e); have hpp := hp p hpm; obtain ⟨o1, c⟩ := p
  cases o1 with
  | none => simp only at hpp; rw [hpp] at hn; cases hn
  | some id => exact ⟨id, hpm, hpp, hk.here id c hpm, by rw [← hpp]; exact hn⟩
 intro i j hi hj hij; obtain ⟨a, ha, ea, la⟩ := key i hi; obtain ⟨b, hb, eb, lb⟩ := key j hj; rw [ea, eb]; refine hinj a b la lb fun e => ?_; subst e
 -- the same number twice
 have : ∀ (ids : List (Option Nat × Nat)), (ids.filterMap (·.1)).Nodup → (some a, i) ∈ ids → (some a, j) ∈ ids → i = j := by
  intro ids
  induction ids with
  | nil => intro _ h1; simp at h1
  | cons p ids ih =>
   intro hnd h1 h2; obtain ⟨o, c⟩ := p
   cases o with
   | none => simp only [List.filterMap_cons] at hnd; exact ih hnd (by simpa using h1) (by simpa using h2)
   | some x =>
    simp only [List.filterMap_cons, List.nodup_cons] at hnd; have hno : ∀ k, (some x, k) ∈ ids → False := fun k hk => hnd.1 (List.mem_filterMap.2 ⟨_, hk, rfl⟩)
    rcases List.mem_cons.1 h1 with e1 | h3
    ·cases e1
     rcases List.mem_cons.1 h2 with e2 | h4
     ·cases e2; rfl
     ·exact (hno _ h4).elim
    ·rcases List.mem_cons.1 h2 with e2 | h4
     ·cases e2; exact (hno _ h3).elim
     ·exact ih hnd.2 h3 h4
 exact hij (this ids hn1 ha hb)

theorem pass_holds {ids : List (Option Nat × Nat)} {os : List (Nat × Ob)} (hk : PassOK objs h ρ' w ids os) (hp : Pulls ids ρ ρ') (hn1 : (ids.filterMap (·.1)).Nodup) (hsub : HSub h w)
  (hinj : ∀ i j, live objs ρ i → live objs ρ j → i ≠ j → (ρ i).blk ≠ (ρ j).blk) : Holds h ρ' os w :=
 ⟨hsub, fun c o e => hk.ob c o e, Zqf hk hp hn1 hinj⟩

theorem Zo2 {ids : List (Option Nat × Nat)} {os : List (Nat × Ob)} (hk : PassOK objs h ρ' w ids os) (hp : Pulls ids ρ ρ') {b : Nat} (hg : Gv os ρ' b) : ∃ id c, (some id, c) ∈ ids ∧ live objs ρ id ∧ (ρ id).blk = b := by
 obtain ⟨i, ⟨⟨o, e⟩, hn⟩, rfl⟩ := hg; obtain ⟨p, hpm, rfl⟩ := hk.at_ i o (Zd4 e); have hpp := hp p hpm; obtain ⟨o1, c⟩ := p
 cases o1 with
 | none => simp only at hpp; rw [hpp] at hn; cases hn
 | some id => exact ⟨id, c, hpm, ⟨hk.here id c hpm, by rw [← hpp]; exact hn⟩, by simp only at hpp; rw [hpp]⟩

end
end Go.Px

/- Laws of the readings. -/
import Derived.Test.YtknnooannohflaaGreatDoorPxB
import Derived.Laws.Sem
namespace Go.Px
open Go.RowKit
set_option linter.unusedVariables false

theorem lget_eq (l : List SV) : ∀ n, lget l n = (l[n]?).getD .unk := by
 induction l with
 | nil => intro n; rfl
 | cons x xs ih => intro n; cases n with
  | zero => rfl
  | succ n => simpa [lget] using ih n

theorem lset_eq (l : List SV) (v : SV) : ∀ n, lset l n v = l.set n v := by
 induction l with
 | nil => intro n; cases n <;> rfl
 | cons x xs ih => intro n; cases n with
  | zero => rfl
  | succ n => simpa [lset] using ih n

theorem lenN_eq (l : List SV) : lenN l = l.length := by
 induction l with
 | nil => rfl
 | cons x xs ih => simpa [lenN] using ih

theorem takeN_eq : ∀ (n : Nat) (l : List SV), takeN n l = l.take n := by
 intro n
 induction n with
 | zero => intro l; simp [takeN]
 | succ n ih => intro l; cases l with
  | nil => simp [takeN]
  | cons x xs => simp [takeN, ih]

theorem dropN_eq : ∀ (n : Nat) (l : List SV), dropN n l = l.drop n := by
 intro n
 induction n with
 | zero => intro l; simp [dropN]
 | succ n ih => intro l; cases l with
  | nil => simp [dropN]
  | cons x xs => simp [dropN, ih]

theorem hmapL_getElem? (g : SV → SV) : ∀ (cs : List SV) (i : Nat), (hmapL g cs)[i]? = (cs[i]?).map (hmap g)
 | [], i => by simp [hmapL]
 | c :: cs, 0 => by simp [hmapL]
 | c :: cs, i + 1 => by simpa [hmapL] using hmapL_getElem? g cs i

theorem hmapL_length (g : SV → SV) : ∀ (cs : List SV), (hmapL g cs).length = cs.length
 | [] => rfl
 | c :: cs => by simp [hmapL, hmapL_length g cs]

theorem ungdAll_getElem? (d : Nat) : ∀ (cs : List SV) (i : Nat), (ungdAll d cs)[i]? = (cs[i]?).map (ungdBy d)
 | [], i => by simp [ungdAll]
 | c :: cs, 0 => by simp [ungdAll]
 | c :: cs, i + 1 => by simpa [ungdAll] using ungdAll_getElem? d cs i

theorem ungdAll_length (n : Nat) : ∀ (cs : List SV), (ungdAll n cs).length = cs.length
 | [] => rfl
 | c :: cs => by simp [ungdAll, ungdAll_length n cs]

theorem beq_false {k n : Nat} (h : k ≠ n) : Nat.beq k n = false := by
 cases hb : Nat.beq k n
 ·rfl
 ·exact absurd (Nat.eq_of_beq_eq_true hb) h

theorem oget_cons (k : Nat) (o : Ob) (xs : List (Nat × Ob)) (n : Nat) : oget ((k, o) :: xs) n = if k = n then some o else oget xs n := by
 simp only [oget]
 by_cases h : k = n
 ·subst h; simp
 ·simp [beq_false h, h]

theorem oget_append (l1 l2 : List (Nat × Ob)) (id : Nat) : oget (l1 ++ l2) id = (oget l1 id).or (oget l2 id) := by
 induction l1 with
 | nil => simp [oget]
 | cons x xs ih =>
  obtain ⟨k, o⟩ := x
  rw [List.cons_append, oget_cons, oget_cons, ih]
  split <;> simp

theorem oget_odel (xs : List (Nat × Ob)) (n m : Nat) : oget (odel xs n) m = if n = m then none else oget xs m := by
 induction xs with
 | nil => simp [odel, oget]
 | cons x xs ih =>
  obtain ⟨k, o⟩ := x
  simp only [odel]
  by_cases h : k = n
  ·subst h
   simp only [Nat.beq_refl, cond_true, ih, oget_cons]
   split <;> simp_all
  ·simp only [beq_false h, cond_false, oget_cons, ih]
   by_cases hm : n = m
   ·subst hm; simp [h]
   ·simp [hm]

theorem oget_oput (xs : List (Nat × Ob)) (n m : Nat) (o : Ob) : oget (oput xs n o) m = if n = m then (oget xs m).map (fun _ => o) else oget xs m := by
 induction xs with
 | nil => simp [oput, oget]
 | cons x xs ih =>
  obtain ⟨k, p⟩ := x
  simp only [oput]
  by_cases h : k = n
  ·subst h
   simp only [Nat.beq_refl, cond_true, oget_cons, ih]
   by_cases hm : k = m <;> simp [hm]
  ·simp only [beq_false h, cond_false, oget_cons, ih]
   by_cases hm : n = m
   ·subst hm; simp [h]
   ·simp [hm]

theorem oget_hmapO (g : SV → SV) (xs : List (Nat × Ob)) (m : Nat) : oget (hmapO g xs) m = (oget xs m).map (hmapOb g) := by
 induction xs with
 | nil => simp [hmapO, oget]
 | cons x xs ih =>
  obtain ⟨k, o⟩ := x
  simp only [hmapO, oget_cons, ih]
  split <;> simp

theorem HLe.refl (h : Hp) : HLe h h := fun _ _ _ e => e
theorem HLe.trans {a b c : Hp} (x : HLe a b) (y : HLe b c) : HLe a c := fun b o v e => y b o v (x b o v e)

theorem Keeps.refl (G : Nat → Prop) (w : World) : Keeps G w w := ⟨rfl, rfl, rfl, Nat.le_refl _, fun _ _ _ => rfl⟩
theorem Keeps.trans {G : Nat → Prop} {a b c : World} (x : Keeps G a b) (y : Keeps G b c) : Keeps G a c :=
 ⟨y.os.trans x.os, y.tape.trans x.tape, y.output.trans x.output, Nat.le_trans x.size y.size, fun k hk hg => (y.block k (Nat.lt_of_lt_of_le hk x.size) hg).trans (x.block k hk hg)⟩
theorem Keeps.step {G G' : Nat → Prop} {a b c : World} (x : Keeps G a b) (y : Keeps G' b c) (h : ∀ k, G' k → a.heap.size ≤ k ∨ G k) : Keeps G a c :=
 ⟨y.os.trans x.os, y.tape.trans x.tape, y.output.trans x.output, Nat.le_trans x.size y.size, fun k hk hg => by
  rw [y.block k (Nat.lt_of_lt_of_le hk x.size) (fun e => by rcases h k e with h | h; omega; exact hg h)]
  exact x.block k hk hg⟩
theorem Keeps.below {G : Nat → Prop} {a b : World} (x : Keeps G a b) (h : ∀ k, ¬ G k) : Below a.heap.size a b :=
 ⟨x.os, x.tape, x.output, x.size, fun k hk => x.block k hk (h k)⟩

theorem PRep.mono {h h' : Hp} (hle : HLe h h') {v : Value} {s : SV} (r : PRep h v s) : PRep h' v s := by
 induction r with
 | val v => exact .val v
 | agg vs cs hl _ ih => exact .agg vs cs hl ih
 | empty p cap sz tok ht h1 hn => exact .empty p cap sz tok ht h1 hn
 | slice b off cap sz rows tok vs hpos hz hh _ ho ht h1 hle' ih =>
  exact .slice b off cap sz rows tok vs hpos hz (fun i r j c hi hj => hle _ _ _ (hh i r j c hi hj)) ih ho ht h1 hle'
 | ref b base off cells vs hh _ ih => exact .ref b base off cells vs (fun j c hj => hle _ _ _ (hh j c hj)) ih
 | clo f vs cs hl _ ih => exact .clo f vs cs hl ih
 | ifc t v s _ ih => exact .ifc t v s ih
 | arr vs kd m ns hm hv => exact .arr vs kd m ns hm hv
 | unk v => exact .unk v

theorem Rep.mono {h h' : Hp} (hle : HLe h h') {ρ : Nat → Loc} {v : Value} {s : SV} (r : Rep h ρ v s) : Rep h' ρ v s := by
 induction r with
 | pure v s hp => exact .pure v s (hp.mono hle)
 | agg vs cs hl _ ih => exact .agg vs cs hl ih
 | tup vs cs hl _ ih => exact .tup vs cs hl ih
 | ptr id off => exact .ptr id off
 | bsl id off n => exact .bsl id off n
 | osl0 id p hn => exact .osl0 id p hn
 | osl id hn => exact .osl id hn
 | eptr id e i off hn => exact .eptr id e i off hn
 | osv id l hh c p h0 h1 h2 hc hp => exact .osv id l hh c p h0 h1 h2 hc hp
 | omp id => exact .omp id
 | aptr id i => exact .aptr id i
 | asl id l hh cap => exact .asl id l hh cap

def isLeaf : SV → Bool
 | .agg _ | .tup _ | .gd _ _ _ => false
 | _ => true

theorem hmap_leaf {g : SV → SV} {s : SV} (hs : isLeaf s = true) : hmap g s = g s := by
 cases s <;> first | rfl | (simp [isLeaf] at hs)

theorem Rep.not_gd {h : Hp} {ρ : Nat → Loc} {v : Value} {t : Nat} {b : Bool} {x : SV} (r : Rep h ρ v (.gd t b x)) : False := by
 cases r with
 | pure _ _ hp => cases hp

theorem PRep.turn {h h' : Hp} {ρ' : Nat → Loc} {g : SV → SV} (hg : ∀ v s, isLeaf s = true → PRep h v s → Rep h' ρ' v (g s)) {v : Value} {s : SV} (r : PRep h v s) : Rep h' ρ' v (hmap g s) := by
 induction r with
 | agg vs cs hl _ ih =>
  refine .agg vs _ (by rw [hmapL_length]; exact hl) fun i v c hv hc => ?_
  rw [hmapL_getElem?] at hc
  cases hx : cs[i]? with
  | none => simp [hx] at hc
  | some x => simp [hx] at hc; subst hc; exact ih i v x hv hx
 | val v => exact hg _ _ rfl (.val v)
 | empty p cap sz tok ht h1 hn => exact hg _ _ rfl (.empty p cap sz tok ht h1 hn)
 | slice b off cap sz rows tok vs hpos hz hh hr ho ht h1 hle => exact hg _ _ rfl (.slice b off cap sz rows tok vs hpos hz hh hr ho ht h1 hle)
 | ref b base off cells vs hh hr => exact hg _ _ rfl (.ref b base off cells vs hh hr)
 | clo f vs cs hl hc => exact hg _ _ rfl (.clo f vs cs hl hc)
 | ifc t v s hv => exact hg _ _ rfl (.ifc t v s hv)
 | arr vs kd m ns hm hv => exact hg _ _ rfl (.arr vs kd m ns hm hv)
 | unk v => exact hg _ _ rfl (.unk v)

theorem Rep.turn {h h' : Hp} {ρ ρ' : Nat → Loc} {g : SV → SV} (hg : ∀ v s, isLeaf s = true → Rep h ρ v s → Rep h' ρ' v (g s)) {v : Value} {s : SV} (r : Rep h ρ v s) : Rep h' ρ' v (hmap g s) := by
 induction r with
 | pure v s hp => exact hp.turn (fun v s hs r => hg v s hs (.pure _ _ r))
 | agg vs cs hl _ ih =>
  refine .agg vs _ (by rw [hmapL_length]; exact hl) fun i v c hv hc => ?_
  rw [hmapL_getElem?] at hc
  cases hx : cs[i]? with
  | none => simp [hx] at hc
  | some x => simp [hx] at hc; subst hc; exact ih i v x hv hx
 | tup vs cs hl _ ih =>
  refine .tup vs _ (by rw [hmapL_length]; exact hl) fun i v c hv hc => ?_
  rw [hmapL_getElem?] at hc
  cases hx : cs[i]? with
  | none => simp [hx] at hc
  | some x => simp [hx] at hc; subst hc; exact ih i v x hv hx
 | ptr id off => exact hg _ _ rfl (.ptr id off)
 | bsl id off n => exact hg _ _ rfl (.bsl id off n)
 | osl0 id p hn => exact hg _ _ rfl (.osl0 id p hn)
 | osl id hn => exact hg _ _ rfl (.osl id hn)
 | eptr id e i off hn => exact hg _ _ rfl (.eptr id e i off hn)
 | osv id l hh c p h0 h1 h2 hc hp => exact hg _ _ rfl (.osv id l hh c p h0 h1 h2 hc hp)
 | omp id => exact hg _ _ rfl (.omp id)
 | aptr id i => exact hg _ _ rfl (.aptr id i)
 | asl id l hh cap => exact hg _ _ rfl (.asl id l hh cap)

theorem killG_pure {h : Hp} {v : Value} {s : SV} (n : Nat) (hs : isLeaf s = true) (r : PRep h v s) : killG n s = s := by
 cases r <;> first | rfl | (simp [isLeaf] at hs)

theorem Rep.kill (n : Nat) {h h' : Hp} (hle : HLe h h') {ρ ρ' : Nat → Loc} (hρ : ∀ i, i ≠ n → ρ' i = ρ i) {v : Value} {s : SV} (r : Rep h ρ v s) : Rep h' ρ' v (hmap (killG n) s) := by
 refine r.turn fun v s hs r => ?_
 have unk : Rep h' ρ' v .unk := .pure _ _ (.unk _)
 cases r with
 | pure _ _ hp => rw [killG_pure n hs hp]; exact .pure _ _ (hp.mono hle)
 | agg => simp [isLeaf] at hs
 | tup => simp [isLeaf] at hs
 | ptr id off =>
  by_cases h : id = n
  ·subst h; simp only [killG, Nat.beq_refl, cond_true]; exact unk
  ·simp only [killG, beq_false h, cond_false]; rw [← hρ id h]; exact .ptr id off
 | bsl id off k =>
  by_cases h : id = n
  ·subst h; simp only [killG, Nat.beq_refl, cond_true]; exact unk
  ·simp only [killG, beq_false h, cond_false]; rw [← hρ id h]; exact .bsl id off k
 | osl0 id p hn =>
  by_cases h : id = n
  ·subst h; simp only [killG, Nat.beq_refl, cond_true]; exact unk
  ·simp only [killG, beq_false h, cond_false]; exact .osl0 id p (by rw [hρ id h]; exact hn)
 | osl id hn =>
  by_cases h : id = n
  ·subst h; simp only [killG, Nat.beq_refl, cond_true]; exact unk
  ·simp only [killG, beq_false h, cond_false]; rw [← hρ id h] at hn ⊢; exact .osl id hn
 | eptr id e i off hn =>
  by_cases h : id = n
  ·subst h; simp only [killG, Nat.beq_refl, cond_true]; exact unk
  ·simp only [killG, beq_false h, cond_false]; rw [← hρ id h] at hn ⊢; exact .eptr id e i off hn
 | osv id l hh c p h0 h1 h2 hc hp =>
  by_cases h : id = n
  ·subst h; simp only [killG, Nat.beq_refl, cond_true]; exact unk
  ·simp only [killG, beq_false h, cond_false]; exact .osv id l hh c p h0 h1 h2 (by rw [hρ id h]; exact hc) (by rw [hρ id h]; exact hp)
 | omp id =>
  by_cases h : id = n
  ·subst h; simp only [killG, Nat.beq_refl, cond_true]; exact unk
  ·simp only [killG, beq_false h, cond_false]; rw [← hρ id h]; exact .omp id
 | aptr id i =>
  by_cases h : id = n
  ·subst h; simp only [killG, Nat.beq_refl, cond_true]; exact unk
  ·simp only [killG, beq_false h, cond_false]; rw [← hρ id h]; exact .aptr id i
 | asl id l hh cap =>
  by_cases h : id = n
  ·subst h; simp only [killG, Nat.beq_refl, cond_true]; exact unk
  ·simp only [killG, beq_false h, cond_false]; rw [← hρ id h]; exact .asl id l hh cap

theorem PRep.tok0 {h : Hp} {v : Value} {sz : Nat} {rows : List (List SV)} {tok : Nat} (r : PRep h v (.slice sz rows tok)) : PRep h v (.slice sz rows 0) := by
 cases r with
 | empty p cap _ _ ht h1 hn => exact .empty p cap sz 0 (by omega) (by omega) hn
 | slice b off cap _ _ _ vs hpos hz hh hr ho ht h1 hle => exact .slice b off cap sz rows 0 vs hpos hz hh hr ho (by omega) (by omega) hle

theorem PRep.fix {h : Hp} {v : Value} {sz sz' : Nat} {rows : List (List SV)} {tok : Nat} (r : PRep h v (.slice sz' rows tok)) (hz : sz' = sz ∨ sz' = 0) : PRep h v (.slice sz rows tok) := by
 rcases hz with rfl | rfl
 ·exact r
 ·cases r with
  | empty p cap _ _ ht h1 hn => exact .empty p cap _ _ ht h1 hn
  | slice _ _ _ _ _ _ _ hpos => exact absurd hpos (Nat.lt_irrefl 0)

theorem HSub.lt {h : Hp} {w : World} {b o : Nat} {v : Value} (hs : HSub h w) (e : h b o = some v) : b < w.heap.size := by
 have := hs b o v e
 unfold World.cell? at this
 simp only [] at this
 rcases Nat.lt_or_ge b w.heap.size with h' | h'
 ·exact h'
 ·rw [Array.getElem?_eq_none h'] at this; cases this

end Go.Px

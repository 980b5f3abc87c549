/- Printed conditions of functions. -/
import Derived.Test.YtknnooannohflaaGreatDoorMetN
import Derived.Test.YtknnooannohflaaGreatDoorMeA
import Derived.Test.YtknnooannohflaaGreatDoorDkA
namespace Go.Proofs.YtknnooannohflaaGreatDoor.Met
open Go Go.Px Go.Proofs 
set_option maxRecDepth 100000
set_option linter.unusedVariables false

theorem mcf_nf (l : List (List SV)) (s : ByteArray) (Q : List SV → Prop) (h : Cl Tryz.prog 145 sP ([SL 2 l, SV.clo 93 ([SV.ref 0 [S s]])]) (fun (rs : List SV) => ∃ x : Int, (rs = [I x]) ∧ (Q [B (ige x 0)]))) : Ct Tryz.prog 92 {} [SL 2 l, .clo 93 [.ref 0 [S s]]] Q :=
  fn_of (f := 92) SgT SvT (fun _ => none) Tryz.f92 Tryz.func92 (by kernel_rfl) (by kernel_rfl) h

theorem mhas1_nf (k v s : ByteArray) (Q : List SV → Prop) (h : Q [B (seq k s)]) : Ct Tryz.prog 93 {} [.agg [S k, S v], .ref 0 [S s]] Q :=
  fn_of (f := 93) SgT SvT (fun _ => none) Tryz.f93 Tryz.func93 (by kernel_rfl) (by kernel_rfl) h

theorem midx_nf (l : List (List SV)) (s : ByteArray) (Q : List SV → Prop) (h : ∃ Inv : Int → Int → Prop, ∃ m : Int → Int → Nat, (Inv 0 0) ∧ (∀ x : Int, ∀ x1 : Int, (Inv x x1) → ifB (ilt x1 (rlen l)) ((((0 : Int) ≤ x1) ∧ (x1 < (rlen l))) ∧ (∃ s1 : ByteArray, ∃ s2 : ByteArray, (rget l x1 = [S s1, S s2]) ∧ (Cl Tryz.prog 93 sP ([SV.agg [S s1, S s2], SV.ref 0 [S s]]) (fun (rs : List SV) => ∃ b : Bool, (rs = [B b]) ∧ (ifB b (Q [I x1]) (((Option.some [] : Option (List (List SV))) = Option.some []) ∧ ((Inv x (wadd IntKind.i64 x1 1)) ∧ (Nat.le (Nat.succ (m x (wadd IntKind.i64 x1 1))) (m x x1))))))))) (Q [I ((-1 : Int))]))) : Ct Tryz.prog 145 {} [SL 2 l, .clo 93 [.ref 0 [S s]]] Q :=
  fn_of (f := 145) SgT SvT (fun _ => none) Tryz.f145 Tryz.func145 (by kernel_rfl) (by kernel_rfl) h

end Go.Proofs.YtknnooannohflaaGreatDoor.Met

namespace Go.Proofs.YtknnooannohflaaGreatDoor.Met
open Go Go.Px Go.Proofs Go.Proofs.YtknnooannohflaaGreatDoor.Cmp Go.Proofs.YtknnooannohflaaGreatDoor.St
set_option maxRecDepth 100000
set_option linter.unusedVariables false

theorem len_dec {α : Type} [DecidableEq α] {l m : List α} {x : Nat} (h : l.length = m.length) (hx : x < l.length) (hp : l.take x = m.take x) (he : l[x] = m[x]'(by omega)) : l.take (x + 1) = m.take (x + 1) := by
  rw [List.take_add_one, List.take_add_one, List.getElem?_eq_getElem hx, List.getElem?_eq_getElem (by omega : x < m.length), hp, he]

deriving instance DecidableEq for SmD
deriving instance DecidableEq for FaD

theorem labB (a b c d : ByteArray) : bnot (band (seq a b) (band (seq c d) true)) = !decide ((a, c) = (b, d)) := by
  rw [seq_d, seq_d]
  by_cases h1 : a = b <;> by_cases h2 : c = d <;> simp [h1, h2, bnot, band]

/-- The walk over two lists of labels of one length. -/
theorem lab_loop (x y : List LaD) (hl : x.length ≤ 4000000000000000000) (hxy : x.length = y.length) (Q : List SV → Prop) (hQ : Q [B (decide (x = y))]) :
    ∃ Inv : Bool → Int → Prop, ∃ m : Bool → Int → Nat, (Inv false 0) ∧ (∀ b : Bool, ∀ x1 : Int, (Inv b x1) → ifB (ilt x1 (rlen (laR x))) ((((0 : Int) ≤ x1) ∧ (x1 < (rlen (laR x)))) ∧ (∃ s : ByteArray, ∃ s1 : ByteArray, (rget (laR x) x1 = [S s, S s1]) ∧ ((((0 : Int) ≤ x1) ∧ (x1 < (rlen (laR y)))) ∧ (∃ s2 : ByteArray, ∃ s3 : ByteArray, (rget (laR y) x1 = [S s2, S s3]) ∧ (ifB (bnot (band (seq s s2) (band (seq s1 s3) true))) (Q [B false]) (((Option.some [] : Option (List (List SV))) = Option.some []) ∧ ((Inv b (wadd IntKind.i64 x1 1)) ∧ (Nat.le (Nat.succ (m b (wadd IntKind.i64 x1 1))) (m b x1))))))))) (Q [B true])) := by
  refine ⟨fun _ i => (0 ≤ i ∧ i ≤ x.length) ∧ x.take i.toNat = y.take i.toNat, fun _ i => (x.length - i).toNat, ⟨by omega, by simp⟩, ?_⟩
  rintro b i ⟨⟨i0, il⟩, hp⟩
  rw [rlen_eq, rlen_eq, List.length_map, List.length_map]
  refine ifB_intro (fun hi => ?_) (fun hi => ?_)
  · have hi : i < x.length := by simpa using hi
    refine ⟨⟨i0, hi⟩, _, _, rget_mapI (fun p : LaD => [S p.1, S p.2]) x i i0 hi, ⟨i0, by omega⟩, _, _, rget_mapI (fun p : LaD => [S p.1, S p.2]) y i i0 (by omega), ?_⟩
    rw [labB]
    refine ifB_intro (fun h => ?_) (fun h => ?_)
    · have h : ¬ (x[i.toNat]'(by omega)) = (y[i.toNat]'(by omega)) := of_decide_eq_false (by simpa only [Bool.not_eq_true'] using h)
      have hne : x ≠ y := fun e => h (by subst e; rfl)
      simpa [hne] using hQ
    · have h : (x[i.toNat]'(by omega)) = (y[i.toNat]'(by omega)) := of_decide_eq_true (by simpa only [Bool.not_eq_false'] using h)
      rw [wadd_i64 (by omega) (by omega)]
      refine ⟨rfl, ⟨by omega, ?_⟩, mlt (by dsimp only; omega)⟩
      rw [show (i + 1).toNat = i.toNat + 1 by omega]
      exact len_dec hxy (by omega) hp h
  · have hi : x.length ≤ i := by simpa using hi
    rw [List.take_of_length_le (by omega), List.take_of_length_le (by omega)] at hp
    simpa [hp] using hQ

theorem lab_eq_len {α : Type} [DecidableEq α] {x y : List α} (h : ¬ ((x.length : Int) = (y.length : Int))) : decide (x = y) = false := by
  have : x ≠ y := fun e => h (by rw [e])
  simp [this]

theorem rlabels_fn (x y : List LaD) (hl : x.length ≤ 4000000000000000000) : Ct Tryz.prog 54 {} [SL 2 (laR x), SL 2 (laR y)] (fun r => r = [B (decide (x = y))]) := by
  refine rlabels_nf _ _ _ (ifB_intro (fun h => ?_) (fun h => lab_loop x y hl ?_ (fun r => r = [B (decide (x = y))]) rfl))
  · rw [lab_eq_len (by simpa [ine] using h)]
  · have : (x.length : Int) = y.length := by simpa [ine] using h
    omega
theorem eql_fn (x y : List LaD) (hl : x.length ≤ 4000000000000000000) : Ct Tryz.prog 82 {} [SL 2 (laR x), SL 2 (laR y)] (fun r => r = [B (decide (x = y))]) := by
  refine meql_nf _ _ _ (ifB_intro (fun h => ?_) (fun h => lab_loop x y hl ?_ (fun r => r = [B (decide (x = y))]) rfl))
  · rw [lab_eq_len (by simpa [ine] using h)]
  · have : (x.length : Int) = y.length := by simpa [ine] using h
    omega

def SmD.ok (x : SmD) : Prop := x.ls.length ≤ 4000000000000000000
def FaD.ok (f : FaD) : Prop := f.ss.length ≤ 4000000000000000000 ∧ ∀ x ∈ f.ss, x.ok

/-- Has one of some labels a name? -/
def hasB (l : List LaD) (s : ByteArray) : Bool := l.any fun p => decide (p.1 = s)


theorem has1_fn (p : LaD) (s : ByteArray) : Ct Tryz.prog 93 {} [.agg [S p.1, S p.2], .ref 0 [S s]] (fun r => r = [B (decide (p.1 = s))]) := by
  refine mhas1_nf _ _ _ _ ?_
  rw [seq_d]

theorem idx_fn (l : List LaD) (hl : l.length ≤ 4000000000000000000) (s : ByteArray) : Ct Tryz.prog 145 {} [SL 2 (laR l), .clo 93 [.ref 0 [S s]]] (fun r => ∃ i : Int, r = [I i] ∧ (0 ≤ i ↔ hasB l s = true)) := by
  refine midx_nf _ _ _ ⟨fun _ i => (0 ≤ i ∧ i ≤ l.length) ∧ hasB (l.take i.toNat) s = false, fun _ i => (l.length - i).toNat, ⟨by omega, by simp [hasB]⟩, ?_⟩
  rintro b i ⟨⟨i0, il⟩, hp⟩
  rw [rlen_eq, List.length_map]
  refine ifB_intro (fun hi => ?_) (fun hi => ?_)
  · have hi : i < l.length := by simpa using hi
    have hi' : i.toNat < l.length := by omega
    refine ⟨⟨i0, hi⟩, _, _, rget_mapI (fun p : LaD => [S p.1, S p.2]) l i i0 hi, Cl.of (has1_fn l[i.toNat] s) ⟨_, rfl, ?_⟩⟩
    refine ifB_intro (fun h => ?_) (fun h => ?_)
    · refine ⟨i, rfl, ⟨fun _ => ?_, fun _ => i0⟩⟩
      exact List.any_eq_true.2 ⟨l[i.toNat], List.getElem_mem hi', h⟩
    · rw [wadd_i64 (by omega) (by omega)]
      refine ⟨rfl, ⟨by omega, ?_⟩, mlt (by dsimp only; omega)⟩
      rw [show (i + 1).toNat = i.toNat + 1 by omega, List.take_add_one, List.getElem?_eq_getElem hi']
      simp only [hasB, Option.toList_some, List.any_append, List.any_cons, List.any_nil, Bool.or_false, Bool.or_eq_false_iff]
      exact ⟨hp, h⟩
  · have hi : l.length ≤ i := by simpa using hi
    rw [List.take_of_length_le (by omega)] at hp
    exact ⟨-1, rfl, ⟨fun h => absurd h (by decide), fun h => by rw [hp] at h; cases h⟩⟩

theorem has_fn (l : List LaD) (hl : l.length ≤ 4000000000000000000) (s : ByteArray) : Ct Tryz.prog 53 {} [SL 2 (laR l), S s] (fun r => r = [B (hasB l s)]) := by
  refine mhas_nf _ _ _ (Cl.ofQ (mcf_nf _ _ _ (Cl.ofQ (idx_fn l hl s) ?_)) (Q := fun r => r = [B (hasB l s)]) ?_)
  · rintro r ⟨i, rfl, hi⟩
    refine ⟨i, rfl, ?_⟩
    cases h : hasB l s with
    | true => have := hi.2 h; simp [ige, this]
    | false => have : ¬ 0 ≤ i := fun e => by rw [hi.1 e] at h; cases h
               simp [ige, this]
  · rintro r rfl
    exact ⟨_, rfl, rfl⟩

/-- A character at a place that may not be there. -/
def badC (s : ByteArray) (x : Int) : Bool := bpick (bnot (bpick (bpick (bpick (ige (sbyte s x) 97) (ile (sbyte s x) 122) false) true (bpick (ige (sbyte s x) 65) (ile (sbyte s x) 90) false)) true (ieq (sbyte s x) 95))) (bpick (bnot (bpick (ige (sbyte s x) 48) (ile (sbyte s x) 57) false)) true (ieq x 0)) false
def namP (s : ByteArray) : Prop := (1 ≤ s.size ∧ s.size ≤ 64) ∧ ∀ i : Nat, i < s.size → badC s (i : Int) = false
instance (s : ByteArray) : Decidable (namP s) := inferInstanceAs (Decidable (_ ∧ _))

theorem mnam_fn (s : ByteArray) : Ct Tryz.prog 24 {} [S s] (fun r => r = [B (decide (namP s))]) := by
  refine mnamed_nf _ _ (ifB_intro (fun h => ?_) (fun h => ?_))
  · have h : (s.size : Int) < 1 ∨ 64 < (s.size : Int) := by simpa [bor_t, slen] using h
    have : ¬ namP s := fun e => by have := e.1; omega
    simp [this]
  have h : 1 ≤ (s.size : Int) ∧ (s.size : Int) ≤ 64 := by simpa [bor_f, slen] using h
  refine ⟨fun _ i => (0 ≤ i ∧ i ≤ s.size) ∧ ∀ k : Nat, (k : Int) < i → badC s (k : Int) = false, fun _ i => (s.size - i).toNat, ⟨by omega, fun k hk => by omega⟩, ?_⟩
  rintro b i ⟨⟨i0, il⟩, hp⟩
  refine ifB_intro (fun hi => ?_) (fun hi => ?_)
  · have hi : i < s.size := by simpa [slen] using hi
    refine ⟨⟨i0, hi⟩, ?_⟩
    show ifB (badC s i) _ _
    refine ifB_intro (fun hb => ?_) (fun hb => ?_)
    · have : ¬ namP s := fun e => by
        have := e.2 i.toNat (by omega)
        rw [Int.toNat_of_nonneg i0, hb] at this; cases this
      simp [this]
    · rw [wadd_i64 (by omega) (by omega)]
      refine ⟨rfl, ⟨by omega, fun k hk => ?_⟩, mlt (by dsimp only; omega)⟩
      by_cases e : (k : Int) = i
      · rw [e]; exact hb
      · exact hp k (by omega)
  · have hi : s.size ≤ i := by simpa [slen] using hi
    have : namP s := ⟨by omega, fun k hk => hp k (by omega)⟩
    simp [this]

/-- Labels that are right, up to a place. -/
def labUp (l : List LaD) (n : Nat) : Prop := ∀ k : Nat, k < n → ∀ h : k < l.length, namP l[k].1 ∧ l[k].2.size ≤ 200 ∧ hasB (l.take k) l[k].1 = false
instance (l : List LaD) (n : Nat) : Decidable (labUp l n) := inferInstanceAs (Decidable (∀ k : Nat, k < n → ∀ h : k < l.length, _))
def labP (l : List LaD) : Prop := l.length ≤ 8 ∧ labUp l l.length
instance (l : List LaD) : Decidable (labP l) := inferInstanceAs (Decidable (_ ∧ _))

theorem labelled_fn (l : List LaD) : Ct Tryz.prog 26 {} [SL 2 (laR l)] (fun r => r = [B (decide (labP l))]) := by
  refine mlabelled_nf _ _ (ifB_intro (fun h => ?_) (fun h => ?_))
  · have h : 8 < (l.length : Int) := by simpa using h
    have : ¬ labP l := fun e => by have := e.1; omega
    simp [this]
  have h : (l.length : Int) ≤ 8 := by simpa using h
  refine ⟨fun _ i => (0 ≤ i ∧ i ≤ l.length) ∧ labUp l i.toNat, fun _ i => (l.length - i).toNat, ⟨by omega, fun k hk => by simp at hk⟩, ?_⟩
  rintro b i ⟨⟨i0, il⟩, hp⟩
  rw [rlen_eq, List.length_map]
  refine ifB_intro (fun hi => ?_) (fun hi => ?_)
  · have hi : i < l.length := by simpa using hi
    have hi' : i.toNat < l.length := by omega
    have no : ∀ {Q : Prop}, ¬ (namP l[i.toNat].1 ∧ l[i.toNat].2.size ≤ 200 ∧ hasB (l.take i.toNat) l[i.toNat].1 = false) → ([B false] : List SV) = [B (decide (labP l))] := fun hn => by
      have : ¬ labP l := fun e => hn (e.2 _ hi' hi')
      simp [this]
    refine ⟨⟨i0, hi⟩, _, _, rget_mapI (fun p : LaD => [S p.1, S p.2]) l i i0 hi, Cl.of (mnam_fn l[i.toNat].1) ⟨_, rfl, ?_⟩⟩
    refine ifB_intro (fun h1 => ?_) (fun h1 => ?_)
    · refine no (Q := True) fun e => ?_
      have h1 : ¬ namP l[i.toNat].1 ∨ 200 < (l[i.toNat].2.size : Int) := by simpa [bor_t, slen, bnot] using h1
      rcases h1 with h1 | h1
      · exact h1 e.1
      · have := e.2.1; omega
    · have h1 : namP l[i.toNat].1 ∧ (l[i.toNat].2.size : Int) ≤ 200 := by simpa [bor_f, slen, bnot] using h1
      refine ⟨⟨by decide, i0, by omega⟩, ?_⟩
      have e : rsub (laR l) 0 i = laR (l.take i.toNat) := by simp [rsub, List.map_take]
      rw [e]
      refine Cl.of (has_fn (l.take i.toNat) (by rw [List.length_take]; omega) l[i.toNat].1) ⟨_, rfl, ?_⟩
      refine ifB_intro (fun h2 => ?_) (fun h2 => ?_)
      · exact no (Q := True) fun e => by rw [e.2.2] at h2; cases h2
      · rw [wadd_i64 (by omega) (by omega)]
        refine ⟨rfl, ⟨by omega, fun k hk hkl => ?_⟩, mlt (by dsimp only; omega)⟩
        by_cases e : k = i.toNat
        · subst e; exact ⟨h1.1, by omega, h2⟩
        · exact hp k (by omega) hkl
  · have hi : l.length ≤ i := by simpa using hi
    have : labP l := ⟨by omega, fun k hk hkl => hp k (by omega) hkl⟩
    simp [this]

/-- A family that is right, and no histogram. -/
def plainP (f : FaD) : Prop := namP f.nm ∧ f.hp.size ≤ 200 ∧ (f.ty = 1 ∨ f.ty = 2) ∧ (1 ≤ f.ss.length ∧ f.ss.length ≤ 400) ∧ ∀ x ∈ f.ss, labP x.ls ∧ x.nm = f.nm ∧ hasB x.ls (ByteArray.mk (Array.mk [108, 101])) = false
instance (f : FaD) : Decidable (plainP f) := inferInstanceAs (Decidable (_ ∧ _ ∧ _ ∧ _ ∧ _))

/-- Names grow. -/
def grow (l : List FaD) : Prop := ∀ k : Nat, ∀ h : k + 1 < l.length, sge l[k].nm l[k + 1].nm = false

end Go.Proofs.YtknnooannohflaaGreatDoor.Met

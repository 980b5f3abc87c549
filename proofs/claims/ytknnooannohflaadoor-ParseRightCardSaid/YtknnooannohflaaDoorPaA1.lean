/- Layer 28: what the parts of a line say of its text, and back. -/
import Derived.Test.YtknnooannohflaaDoorPrE1
import Derived.Test.YtknnooannohflaaDoorExX
namespace Go.Proofs.YtknnooannohflaaDoor.Prs
open Go Go.Proofs Go.RowKit Go.Px Trm Exp Met
set_option linter.unusedVariables false

theorem Zql {p : UInt8 → Bool} {l : Tx} {u : UInt8} (h : u ∈ l.takeWhile p) : p u = true := by
 induction l with
 | nil => cases h
 | cons c l ih =>
  rw [List.takeWhile_cons] at h
  split at h
  ·rcases List.mem_cons.1 h with rfl | h
   ·assumption
   ·exact ih h
  ·cases h
theorem Zam {t : Tx} {a : Nat} {c : UInt8} {r : Tx} : t.drop a = c :: r ↔ t[a]? = some c ∧ t.drop (a + 1) = r := by
 constructor
 ·intro h; have h1 : t[a]? = some c := by have := congrArg (·[0]?) h; simpa using this
  rw [Zbl h1] at h; exact ⟨h1, (List.cons.inj h).2⟩
 ·rintro ⟨h1, h2⟩; rw [Zbl h1, h2]
theorem Zbc {t x r : Tx} {a : Nat} (h : t.drop a = x ++ r) : t.drop (a + x.length) = r := by
 rw [← List.drop_drop, h, List.drop_left]
theorem Zct {t : Tx} : ∀ {w : Tx} {a b : Nat} {u : Unit}, pNeed t w a = .ok (u, b) → b = a + w.length ∧ t.drop a = w ++ t.drop b
 | [], a, b, u, h => by cases h; simp
 | c :: w, a, b, u, h => by
  unfold pNeed at h
  split at h
  ·rename_i hc; obtain ⟨h1, h2⟩ := Zct h; refine ⟨by simp; omega, ?_⟩; rw [Zbl hc, h2]; rfl
  ·cases h
theorem Zc9 {t r : Tx} : ∀ {w : Tx} {a : Nat}, t.drop a = w ++ r → pNeed t w a = .ok ((), a + w.length)
 | [], a, h => rfl
 | c :: w, a, h => by obtain ⟨h1, h2⟩ := Zam.1 h; unfold pNeed; rw [if_pos h1, Zc9 h2, List.length_cons]; congr 2; omega

/- Names. -/
def nmG (s : Tx) : Prop := ∃ c r, s = c :: r ∧ letB c = true ∧ ∀ u ∈ r, nmcB u = true
theorem nmG.all {s : Tx} (h : nmG s) : ∀ u ∈ s, nmcB u = true := by
 obtain ⟨c, r, rfl, h1, h2⟩ := h; intro u hu
 rcases List.mem_cons.1 hu with rfl | hu
 ·unfold nmcB; rw [h1]; rfl
 ·exact h2 u hu
theorem Zmv {t : Tx} {a b : Nat} {nm : Tx} (h : pName t a = .ok (nm, b)) : nmG nm ∧ b = a + nm.length ∧ t.drop a = nm ++ t.drop b := by
 unfold pName at h
 cases hc : t[a]? with
 | none => rw [hc] at h; cases h
 | some c =>
  rw [hc] at h; simp only at h
  split at h
  ·rename_i hl
   cases h
   have hn : nmAt t a = c :: (t.drop (a + 1)).takeWhile nmcB := (by unfold nmAt; rw [Zbl hc, List.takeWhile_cons]; simp [nmcB, hl]); refine ⟨⟨c, _, hn, hl, fun u hu => (Zql hu)⟩, rfl, ?_⟩; have e : t.drop a = nmAt t a ++ (t.drop a).dropWhile nmcB := (List.takeWhile_append_dropWhile).symm; rw [Zbc e]; exact e
  ·cases h
theorem Zkk {t nm r : Tx} {a : Nat} (hn : nmG nm) (h : t.drop a = nm ++ r) (hr : ∀ c r', r = c :: r' → nmcB c = false) : pName t a = .ok (nm, a + nm.length) := by
 have hnm : nmAt t a = nm := by
  unfold nmAt; rw [h, List.takeWhile_append_of_pos hn.all]
  cases r with
  | nil => simp
  | cons c r' => rw [List.takeWhile_cons, hr c r' rfl]; simp
 obtain ⟨c, r', e, hl, _⟩ := hn; have hc : t[a]? = some c := (Zam.1 (h.trans (by rw [e]; rfl))).1; unfold pName; rw [hc]; simp only; rw [if_pos hl, hnm]

/- Escaped texts. -/
def eE (v : Bool) (c : UInt8) : Tx := if v then eV c else eH c
def escT (v : Bool) (l : Tx) : Tx := l.flatMap (eE v)
def stp (v : Bool) (r : Tx) : Prop := r = [] ∨ (v = true ∧ ∃ r', r = 34 :: r')
theorem Zv9 {v : Bool} {d y : UInt8} (h : sgnB v d = some y) : eE v y = [92, d] := by
 unfold sgnB at h
 split at h
 ·rename_i e; cases h; subst e; cases v <;> rfl
 ·split at h
  ·rename_i e; cases h; subst e; cases v <;> rfl
  ·split at h
   ·rename_i e
    split at h
    ·rename_i e2; cases h; subst e; subst e2; rfl
    ·cases h
   ·cases h
theorem Zmw {v : Bool} {c : UInt8} (h1 : ¬ (v = true ∧ c = 34)) (h2 : ¬ c = 92) (h3 : ¬ c = 10) : eE v c = [c] := by
 unfold eE
 cases v with
 | true => have : ¬ c = 34 := fun e => h1 ⟨rfl, e⟩; simp [eV, this, h2, h3]
 | false => simp [eH, h2, h3]
theorem Zeu (v : Bool) (c : UInt8) (l : Tx) : escT v (c :: l) = eE v c ++ escT v l := rfl
theorem Zs9 {p : Tx} {e : Except Nat (Tx × Nat)} {x : Tx} {b : Nat} (h : eApp p e = .ok (x, b)) : ∃ x', e = .ok (x', b) ∧ x = p ++ x' := by
 match e, h with
 | .ok (x', b'), h => cases h; exact ⟨x', rfl, rfl⟩
 | .error _, h => cases h
theorem Zn2 {v : Bool} : ∀ (n : Nat) {l : Tx} {a b : Nat} {x : Tx}, l.length ≤ n → pEscL v l a = .ok (x, b) → 10 ∉ l → ∃ r, l = escT v x ++ r ∧ b = a + (escT v x).length ∧ stp v r
 | _, [], a, b, x, _, h, _ => by cases h; exact ⟨[], rfl, rfl, .inl rfl⟩
 | 0, c :: l, a, b, x, hn, h, _ => by simp at hn
 | n + 1, c :: l, a, b, x, hn, h, ht => by
  rw [pEscL.eq_def] at h; simp only at h; simp only [List.length_cons] at hn
  split at h
  ·rename_i e
   cases h
   exact ⟨c :: l, rfl, rfl, .inr ⟨e.1, l, by rw [e.2]⟩⟩
  ·rename_i e0
   split at h
   ·rename_i e1
    split at h
    ·cases h
    ·rename_i d l' _
     split at h
     ·cases h
     ·rename_i y hy; obtain ⟨x', h1, rfl⟩ := Zs9 h; obtain ⟨r, h2, h3, h4⟩ := Zn2 n (by simp only [List.length_cons] at hn; omega) h1 (fun q => ht (by simp [q])); refine ⟨r, ?_, ?_, h4⟩
      ·rw [e1, h2]; show _ = escT v (y :: x') ++ r; rw [Zeu, Zv9 hy]; rfl
      ·show b = a + (escT v (y :: x')).length; rw [Zeu, Zv9 hy, h3]; simp; omega
   ·rename_i e1; obtain ⟨x', h1, rfl⟩ := Zs9 h; obtain ⟨r, h2, h3, h4⟩ := Zn2 n (by omega) h1 (fun q => ht (by simp [q])); have hc : ¬ c = 10 := fun q => ht (by simp [q]); refine ⟨r, ?_, ?_, h4⟩
    ·rw [h2]; show _ = escT v (c :: x') ++ r; rw [Zeu, Zmw e0 e1 hc]; rfl
    ·show b = a + (escT v (c :: x')).length; rw [Zeu, Zmw e0 e1 hc, h3]; simp; omega
theorem Zqm {v : Bool} {r : Tx} (hr : stp v r) : ∀ (x : Tx) (a : Nat), pEscL v (escT v x ++ r) a = .ok (x, a + (escT v x).length)
 | [], a => by
  rcases hr with rfl | ⟨hv, r', rfl⟩
  ·rfl
  ·show pEscL v (34 :: r') a = _; rw [pEscL.eq_def]; simp only; rw [if_pos ⟨hv, trivial⟩]; rfl
 | c :: x, a => by
  have two : ∀ d, eE v c = [92, d] → sgnB v d = some c → pEscL v (escT v (c :: x) ++ r) a = .ok (c :: x, a + (escT v (c :: x)).length) := fun d e hs => by rw [Zeu, e]; show pEscL v (92 :: d :: (escT v x ++ r)) a = _; rw [pEscL.eq_def]; simp only; rw [if_neg (by simp), if_pos trivial, hs]; simp only; rw [Zqm hr x (a + 2)]; show Except.ok _ = _; congr 2; simp; omega
  have one : eE v c = [c] → ¬ (v = true ∧ c = 34) → ¬ c = 92 → pEscL v (escT v (c :: x) ++ r) a = .ok (c :: x, a + (escT v (c :: x)).length) := fun e h1 h2 => by rw [Zeu, e]; show pEscL v (c :: (escT v x ++ r)) a = _; rw [pEscL.eq_def]; simp only; rw [if_neg h1, if_neg h2, Zqm hr x (a + 1)]; show Except.ok _ = _; congr 2; simp; omega
  by_cases h92 : c = 92
  ·subst h92; exact two 92 (by cases v <;> rfl) rfl
  ·by_cases h10 : c = 10
   ·subst h10; exact two 110 (by cases v <;> rfl) (by cases v <;> rfl)
   ·by_cases h34 : v = true ∧ c = 34
    ·obtain ⟨rfl, rfl⟩ := h34; exact two 34 rfl rfl
    ·exact one (Zmw h34 h92 h10) h34 h92

/- Numbers. -/
theorem Zta {n d : Nat} (hn : 0 < n) (hd : d < 10) : Lib.decDigits (n * 10 + d) = Lib.decDigits n ++ [UInt8.ofNat (48 + d)] := by
 rw [Lib.decDigits, dif_neg (by omega)]; have e1 : (n * 10 + d) / 10 = n := (by omega); have e2 : (n * 10 + d) % 10 = d := (by omega); rw [e1, e2]
theorem dig_of {c : UInt8} (h : digB c = true) : c = UInt8.ofNat (48 + (c.toNat - 48)) ∧ c.toNat - 48 < 10 := by
 unfold digB at h; simp only [Bool.and_eq_true, decide_eq_true_eq] at h; refine ⟨?_, by omega⟩; apply UInt8.toNat_inj.1; rw [show 48 + (c.toNat - 48) = c.toNat by omega]; simp
theorem dec_le {n m : Nat} {ds : Tx} (h : Lib.decDigits m = Lib.decDigits n ++ ds) : n ≤ m := by
 have e := congrArg vDec h; rw [Ziy] at e
 have : ∀ (ds l : Tx), vDec l ≤ vDec (l ++ ds) := by
  intro ds
  induction ds with
  | nil => intro l; simp
  | cons c ds ih => intro l; have h1 := ih (l ++ [c]); rw [Znl] at h1; rw [show l ++ c :: ds = l ++ [c] ++ ds by simp]; omega
 have h2 := this ds (Lib.decDigits n); rw [Ziy] at h2; omega
theorem Ztb {most : Nat} (hm : 9 ≤ most) : ∀ {l : Tx} {n a b m : Nat}, pDigs most l n a = .ok (m, b) → 0 < n → n ≤ most →
  ∃ ds r, l = ds ++ r ∧ Lib.decDigits m = Lib.decDigits n ++ ds ∧ b = a + ds.length ∧ m ≤ most ∧ 0 < m
 | [], n, a, b, m, h, h0, h1 => by cases h; exact ⟨[], [], rfl, by simp, rfl, h1, h0⟩
 | c :: l, n, a, b, m, h, h0, h1 => by
  rw [pDigs] at h
  split at h
  ·rename_i e
   split at h
   ·cases h
   ·rename_i e2; obtain ⟨hc, hd⟩ := dig_of e.2; obtain ⟨ds, r, g1, g2, g3, g4, g5⟩ := Ztb hm h (by omega) (by omega); refine ⟨c :: ds, r, by rw [g1]; rfl, ?_, by simp; omega, g4, g5⟩; rw [g2, Zta h0 hd, ← hc]; simp
  ·cases h
   exact ⟨[], c :: l, rfl, by simp, rfl, h1, h0⟩
theorem Ztc {most : Nat} : ∀ {ds : Tx} {n m : Nat} (a : Nat), Lib.decDigits m = Lib.decDigits n ++ ds → 0 < n → m ≤ most → (∀ c ∈ ds, digB c = true) → pDigs most ds n a = .ok (m, a + ds.length)
 | [], n, m, a, h, h0, h1, _ => by have : m = n := (by have e := congrArg vDec h; rw [List.append_nil, Ziy, Ziy] at e; exact e); subst this; rfl
 | c :: ds, n, m, a, h, h0, h1, hd => by have hc := hd c (by simp); obtain ⟨hc1, hc2⟩ := dig_of hc; have h2 : Lib.decDigits m = Lib.decDigits (n * 10 + (c.toNat - 48)) ++ ds := (by rw [h, Zta h0 hc2, ← hc1]; simp); have h3 := dec_le h2; rw [pDigs, if_pos ⟨h0, hc⟩, if_neg (by omega), Ztc (a + 1) h2 (by omega) h1 (fun u hu => hd u (by simp [hu]))]; congr 2; simp; omega
theorem Zwa {most : Nat} (hm : 9 ≤ most) {below : Bool} {t : Tx} {a b m : Nat} (h : pAbs most below t a = .ok (m, b)) :
  t.drop a = Lib.decDigits m ++ t.drop b ∧ b = a + (Lib.decDigits m).length ∧ m ≤ most ∧ (below = true → 0 < m) := by
 unfold pAbs at h
 cases hc : t[a]? with
 | none => rw [hc] at h; cases h
 | some f =>
  rw [hc] at h; simp only at h
  split at h
  ·cases h
  ·rename_i e
   have e1 : digB f = true := by
    cases hb : digB f with
    | true => rfl
    | false => exact absurd (.inl hb) e
   obtain ⟨hf, hf2⟩ := dig_of e1; have ed := Zbl hc; by_cases h0 : f.toNat - 48 = 0
   ·rw [h0, Zem] at h
    cases h
    have : f = 48 := (by rw [hf, h0]; rfl); refine ⟨?_, ?_, Nat.zero_le _, fun hb => absurd (.inr ⟨hb, this⟩) e⟩
    ·rw [ed, this, Lib.decDigits_one (by omega)]; rfl
    ·rw [Lib.decDigits_one (by omega)]; rfl
   ·obtain ⟨ds, r, g1, g2, g3, g4, g5⟩ := Ztb hm h (by omega) (by omega); have e2 : Lib.decDigits m = f :: ds := by rw [g2, Lib.decDigits_one hf2, ← hf]; rfl
    have e3 : t.drop a = Lib.decDigits m ++ r := (by rw [ed, g1, e2]; rfl); have e4 : b = a + (Lib.decDigits m).length := (by rw [e2, g3]; simp; omega); refine ⟨?_, e4, g4, fun _ => g5⟩; rw [e4, Zbc e3, e3]
theorem Zqn (m : Nat) : ∀ c ∈ Lib.decDigits m, digB c = true := fun c hc => by
 have := Zol m c hc; unfold digB; simp; exact this
theorem Zqo {m : Nat} {r : Tx} (h : Lib.decDigits m = 48 :: r) : m = 0 := by
 induction m using Nat.strongRecOn generalizing r with
 | _ m ih =>
  by_cases hm : m < 10
  ·rw [Lib.decDigits_one hm] at h; have h1 := congrArg UInt8.toNat (List.cons.inj h).1; simp at h1; omega
  ·exfalso; rw [Lib.decDigits, dif_neg hm] at h
   cases hq : Lib.decDigits (m / 10) with
   | nil => have := Lib.decDigits_length (m / 10); rw [hq] at this; have := Lib.nDigits_pos (m / 10); simp at *; omega
   | cons u v => rw [hq] at h; have h1 : u = 48 := (List.cons.inj h).1; subst h1; have := ih (m / 10) (by omega) hq; omega
theorem Zwb {most : Nat} {below : Bool} {t : Tx} {a m : Nat} (h : t.drop a = Lib.decDigits m) (hm : m ≤ most) (hb : below = true → 0 < m) : pAbs most below t a = .ok (m, a + (Lib.decDigits m).length) := by
 cases hq : Lib.decDigits m with
 | nil => have := Lib.decDigits_length m; rw [hq] at this; have := Lib.nDigits_pos m; simp at *; omega
 | cons f ds =>
  rw [hq] at h; obtain ⟨hc, hd⟩ := Zam.1 h; have hall := Zqn m; rw [hq] at hall; have hf := hall f (by simp); obtain ⟨hf1, hf2⟩ := dig_of hf; unfold pAbs; rw [hc]; simp only
  rw [if_neg (by
   rintro (h1 | ⟨h1, h2⟩)
   ·rw [hf] at h1; cases h1
   ·subst h2; have := Zqo hq; have := hb h1; omega)]
  by_cases h0 : f.toNat - 48 = 0
  ·have : f = 48 := (by rw [hf1, h0]; rfl); subst this; have hm0 := Zqo hq; subst hm0; rw [Lib.decDigits_one (by omega)] at hq; have : ds = [] := (List.cons.inj hq).2.symm; subst this; rw [h0, Zem]; rfl
  ·have h2 : Lib.decDigits m = Lib.decDigits (f.toNat - 48) ++ ds := (by rw [Lib.decDigits_one hf2, ← hf1, hq]; rfl); rw [hd, Ztc (a + 1) h2 (by omega) hm (fun u hu => hall u (by simp [hu]))]; congr 2; simp; omega
theorem Ztd (m : Nat) : Lib.itoa (m : Int) = Lib.decDigits m := Lib.itoa_nonneg m
theorem num_ok {t : Tx} {a b : Nat} {v : Int} (h : pNum t a = .ok (v, b)) : t.drop a = Lib.itoa v ++ t.drop b ∧ b = a + (Lib.itoa v).length ∧ i64 v := by
 unfold pNum at h
 cases hc : t[a]? with
 | none => rw [hc] at h; cases h
 | some x =>
  rw [hc] at h; simp only at h
  split at h
  ·rename_i ex
   cases hq : pAbs 9223372036854775808 true t (a + 1) with
   | error e => rw [hq] at h; cases h
   | ok q =>
    obtain ⟨m, c⟩ := q; rw [hq] at h
    cases h
    obtain ⟨g1, g2, g3, g4⟩ := Zwa (by decide) hq; have g5 := g4 rfl; rw [Lib.itoa_neg m g5]; refine ⟨?_, by rw [g2]; simp; omega, by unfold i64; omega⟩; rw [Zbl hc, g1, ex]; rfl
  ·cases hq : pAbs 9223372036854775807 false t a with
   | error e => rw [hq] at h; cases h
   | ok q =>
    obtain ⟨m, c⟩ := q; rw [hq] at h
    cases h
    obtain ⟨g1, g2, g3, g4⟩ := Zwa (by decide) hq; rw [Ztd]; exact ⟨g1, g2, by unfold i64; omega⟩
theorem num_to {t : Tx} {a : Nat} {v : Int} (hv : i64 v) (h : t.drop a = Lib.itoa v) : pNum t a = .ok (v, a + (Lib.itoa v).length) := by
 unfold i64 at hv; by_cases h0 : 0 ≤ v
 ·obtain ⟨m, rfl⟩ : ∃ m : Nat, v = m := ⟨v.toNat, by omega⟩
  rw [Ztd] at h ⊢; have ha := Zwb (below := false) h (by omega : m ≤ 9223372036854775807) (by simp)
  cases hq : Lib.decDigits m with
  | nil => have := Lib.decDigits_length m; rw [hq] at this; have := Lib.nDigits_pos m; simp at *; omega
  | cons f ds => have hf := Zqn m f (by rw [hq]; simp); have hc := (Zam.1 (h.trans hq)).1; unfold pNum; rw [hc]; simp only; rw [if_neg (by intro e; subst e; revert hf; decide), ha, hq]
 ·obtain ⟨m, rfl, hm⟩ : ∃ u : Nat, v = -(u : Int) ∧ 1 ≤ u := ⟨v.natAbs, by omega, by omega⟩
  rw [Lib.itoa_neg m hm] at h ⊢; obtain ⟨hc, hd⟩ := Zam.1 h; have ha := Zwb (below := true) hd (by omega : m ≤ 9223372036854775808) (fun _ => hm); unfold pNum; rw [hc]; simp only; rw [if_pos trivial, ha]; simp only; congr 2; simp; omega

def laG (p : LaD) : Prop := nmG p.1.data.toList
def labB : List LaD → Tx
 | [] => []
 | p :: ps => labC p ++ ps.flatMap fun q => 44 :: labC q
theorem Zmx (l : Tx) : escT true l = valT l := rfl
theorem Zxq (l : Tx) : escT false l = hlpT l := rfl
theorem Zfr {t : Tx} {a b : Nat} (h : a ≤ b) (ht : 10 ∉ t.drop a) : 10 ∉ t.drop b := by
 obtain ⟨k, rfl⟩ : ∃ k, b = a + k := ⟨b - a, by omega⟩
 rw [← List.drop_drop]; exact fun hm => ht (List.mem_of_mem_drop hm)
theorem bA_l (s : ByteArray) : bA s.data.toList = s := bA_of s

theorem lab_ok {t : Tx} {a b : Nat} {p : LaD} (h : pLab t a = .ok (p, b)) (ht : 10 ∉ t.drop a) : laG p ∧ t.drop a = labC p ++ t.drop b ∧ b = a + (labC p).length := by
 unfold pLab at h
 cases h1 : pName t a with
 | error e => rw [h1] at h; cases h
 | ok q1 =>
  obtain ⟨nm, b1⟩ := q1; rw [h1] at h; simp only at h; obtain ⟨n1, n2, n3⟩ := Zmv h1
  cases h2 : pNeed t [61, 34] b1 with
  | error e => rw [h2] at h; cases h
  | ok q2 =>
   obtain ⟨u2, b2⟩ := q2; rw [h2] at h; simp only at h; obtain ⟨k1, k2⟩ := Zct h2
   cases h3 : pEsc true t b2 with
   | error e => rw [h3] at h; cases h
   | ok q3 =>
    obtain ⟨v, b3⟩ := q3; rw [h3] at h; simp only at h; have hle : a ≤ b2 := (by omega); obtain ⟨r, e1, e2, e3⟩ := Zn2 _ (Nat.le_refl _) h3 (Zfr hle ht)
    cases h4 : pNeed t [34] b3 with
    | error e => rw [h4] at h; cases h
    | ok q4 =>
     obtain ⟨u4, b4⟩ := q4; rw [h4] at h; simp only at h
     cases h
     obtain ⟨m1, m2⟩ := Zct h4; have er : t.drop b3 = r := by rw [e2]; exact Zbc e1
     have eT : t.drop a = labC (bA nm, bA v) ++ t.drop b := (by rw [n3, k2, e1, ← er, m2]; unfold labC; simp [Zmx]); refine ⟨by unfold laG; simpa [Zbh] using n1, eT, ?_⟩; unfold labC; rw [m1, e2, k1, n2]; simp [Zmx]; omega
theorem Zwc {t r : Tx} {a : Nat} {p : LaD} (hp : laG p) (h : t.drop a = labC p ++ r) : pLab t a = .ok (p, a + (labC p).length) := by
 have h1 : t.drop a = p.1.data.toList ++ (61 :: 34 :: (escT true p.2.data.toList ++ 34 :: r)) := (by rw [h]; unfold labC; simp [Zmx]); have g1 := Zkk hp h1 (fun c r' e => by cases e; decide); have h2 := Zbc h1; have g2 := Zc9 (w := [61, 34]) h2; have h3 := Zbc (x := [61, 34]) h2; have g3 : pEsc true t (a + p.1.data.toList.length + [(61 : UInt8), 34].length) = .ok (p.2.data.toList, a + p.1.data.toList.length + [(61 : UInt8), 34].length + (escT true p.2.data.toList).length) := (by unfold pEsc; rw [h3]; exact Zqm (.inr ⟨rfl, r, rfl⟩) _ _); have h4 := Zbc h3; have g4 := Zc9 (w := [34]) (r := r) h4; unfold pLab; rw [g1]; simp only; rw [g2]; simp only; rw [g3]; simp only; rw [g4]; simp only; rw [bA_l, bA_l]; congr 2; unfold labC; simp [Zmx]; omega
theorem Zfs (p q : LaD) (ps : List LaD) : labB (p :: q :: ps) = labC p ++ 44 :: labB (q :: ps) := by simp [labB]
theorem Zte {t : Tx} : ∀ {n a b : Nat} {ls : List LaD}, pLabs t n a = .ok (ls, b) → 10 ∉ t.drop a → ls ≠ [] ∧ (∀ p ∈ ls, laG p) ∧ t.drop a = labB ls ++ 125 :: t.drop b ∧ b = a + (labB ls).length + 1
 | 0, a, b, ls, h, _ => by cases h
 | n + 1, a, b, ls, h, ht => by
  cases h1 : pLab t a with
  | error e => rw [Zoh h1] at h; cases h
  | ok q =>
   obtain ⟨p, b1⟩ := q; obtain ⟨g1, g2, g3⟩ := lab_ok h1 ht
   cases hx : t[b1]? with
   | none => rw [Zjn h1 hx] at h; cases h
   | some x =>
    by_cases h44 : x = 44
    ·subst h44; rw [Zf1 h1 hx] at h
     cases hr : pLabs t n (b1 + 1) with
     | error e => rw [hr] at h; cases h
     | ok q =>
      obtain ⟨rs, b2⟩ := q; rw [hr] at h
      cases h
      obtain ⟨k1, k2, k3, k4⟩ := Zte hr (Zfr (by omega) ht)
      cases rs with
      | nil => exact absurd rfl k1
      | cons q qs =>
       refine ⟨by simp, fun u hu => ?_, ?_, ?_⟩
       ·rcases List.mem_cons.1 hu with rfl | hu
        ·exact g1
        ·exact k2 u hu
       ·show _ = labB (p :: q :: qs) ++ _; rw [Zfs, g2, Zbl hx, k3]; simp
       ·show _ = a + (labB (p :: q :: qs)).length + 1; rw [Zfs, k4, g3]; simp; omega
    ·rw [Zf2 h1 hx h44] at h
     cases hr : pNeed t [125] b1 with
     | error e => rw [hr] at h; cases h
     | ok q =>
      obtain ⟨u, b2⟩ := q; rw [hr] at h
      cases h
      obtain ⟨k1, k2⟩ := Zct hr
      refine ⟨by simp, fun u hu => (by have e : u = p := by simpa using hu
                                       rw [e]; exact g1), ?_, ?_⟩
      ·show _ = labC p ++ [] ++ _; rw [g2, k2]; simp
      ·rw [k1, g3]; simp [labB]
theorem Ztf {t : Tx} : ∀ {ls : List LaD} {n a : Nat} {r : Tx}, ls ≠ [] → (∀ p ∈ ls, laG p) → t.drop a = labB ls ++ 125 :: r → ls.length ≤ n → pLabs t n a = .ok (ls, a + (labB ls).length + 1)
 | [], _, _, _, h, _, _, _ => absurd rfl h
 | [p], 0, a, r, _, hp, h, hn => by simp at hn
 | [p], n + 1, a, r, _, hp, h, hn => by have h1 : t.drop a = labC p ++ 125 :: r := (by rw [h]; simp [labB]); have g1 := Zwc (hp p (by simp)) h1; have h2 := Zbc h1; rw [Zf2 g1 (Zam.1 h2).1 (by decide), Zc9 (w := [125]) (r := r) h2]; simp [labB]
 | p :: q :: ps, 0, a, r, _, hp, h, hn => by simp at hn
 | p :: q :: ps, n + 1, a, r, _, hp, h, hn => by have h1 : t.drop a = labC p ++ 44 :: (labB (q :: ps) ++ 125 :: r) := (by rw [h, Zfs]; simp); have g1 := Zwc (hp p (by simp)) h1; have h2 := Zbc h1; obtain ⟨h3, h4⟩ := Zam.1 h2; rw [Zf1 g1 h3, Ztf (by simp) (fun u hu => hp u (List.mem_cons_of_mem _ hu)) h4 (by simp at *; omega)]; show Except.ok _ = _; rw [Zfs]; congr 2; simp; omega
theorem Zqp (p : LaD) : 1 ≤ (labC p).length := by unfold labC; simp; omega
theorem Zqq : ∀ ls : List LaD, ls.length ≤ (labB ls).length
 | [] => Nat.le_refl _
 | [p] => by have := Zqp p; simp [labB]; omega
 | p :: q :: ps => by have h := Zqq (q :: ps); have h1 := Zqp p; rw [Zfs]; simp only [List.length_cons, List.length_append] at *; omega
theorem Ztg {ls : List LaD} (h : ls ≠ []) : labT ls ++ (if ls = [] then [] else [125]) = 123 :: (labB ls ++ [125]) := by
 cases ls with
 | nil => exact absurd rfl h
 | cons p ps => simp [labT, labB]

/- Samples. -/
def smG (x : SmD) : Prop := nmG x.nm.data.toList ∧ (∀ p ∈ x.ls, laG p) ∧ i64 x.v
theorem Zth {t nm : Tx} {ls : List LaD} {a b : Nat} {x : SmD} (h : pTail t nm ls a = .ok (x, b)) : x.nm = bA nm ∧ x.ls = ls ∧ i64 x.v ∧ t.drop a = 32 :: (Lib.itoa x.v ++ t.drop b) ∧ b = a + (Lib.itoa x.v).length + 1 := by
 unfold pTail at h
 cases h1 : pNeed t [32] a with
 | error e => rw [h1] at h; cases h
 | ok q =>
  obtain ⟨u, b1⟩ := q; rw [h1] at h; simp only at h; obtain ⟨g1, g2⟩ := Zct h1
  cases h2 : pNum t b1 with
  | error e => rw [h2] at h; cases h
  | ok q =>
   obtain ⟨v, b2⟩ := q; rw [h2] at h
   cases h
   obtain ⟨k1, k2, k3⟩ := num_ok h2; refine ⟨rfl, rfl, k3, by rw [g2, k1]; rfl, by rw [k2, g1]; simp; omega⟩
theorem Zti {t nm : Tx} {ls : List LaD} {a : Nat} {v : Int} (hv : i64 v) (h : t.drop a = 32 :: Lib.itoa v) : pTail t nm ls a = .ok (⟨bA nm, ls, v⟩, a + (Lib.itoa v).length + 1) := by
 have g1 := Zc9 (w := [32]) (r := Lib.itoa v) h; have g2 := num_to hv (Zbc (x := [32]) h); unfold pTail; rw [g1]; simp only; rw [g2]; congr 2; simp; omega
theorem Ztj {t : Tx} {b : Nat} {x : SmD} (h : pSamp t 0 = .ok (x, b)) (ht : 10 ∉ t) : smG x ∧ t = linT x ++ t.drop b ∧ b = (linT x).length := by
 have ht0 : 10 ∉ t.drop 0 := ht; unfold pSamp at h
 cases h1 : pName t 0 with
 | error e => rw [h1] at h; cases h
 | ok q1 =>
  obtain ⟨nm, b1⟩ := q1; rw [h1] at h; simp only at h; obtain ⟨n1, n2, n3⟩ := Zmv h1; rw [List.drop_zero] at n3
  cases hx : t[b1]? with
  | none => rw [hx] at h; cases h
  | some y =>
   rw [hx] at h; simp only at h; by_cases hy : y = 123
   ·subst hy; rw [if_pos rfl] at h
    cases h2 : pLabs t (t.length + 1 - (b1 + 1)) (b1 + 1) with
    | error e => rw [h2] at h; cases h
    | ok q2 =>
     obtain ⟨ls, b2⟩ := q2; rw [h2] at h; simp only at h; obtain ⟨k1, k2, k3, k4⟩ := Zte h2 (Zfr (Nat.zero_le _) ht0); obtain ⟨m1, m2, m3, m4, m5⟩ := Zth h
     have eT : t = linT x ++ t.drop b := by
      unfold linT; rw [m1, m2, List.append_assoc _ (labT ls), Ztg k1]
      conv => lhs; rw [n3, Zbl hx, k3, m4]
      simp
     refine ⟨⟨by rw [m1, Zbh]; exact n1, by rw [m2]; exact k2, m3⟩, eT, ?_⟩; unfold linT; rw [m1, m2, List.append_assoc _ (labT ls), Ztg k1, m5, k4, n2]; simp; omega
   ·rw [if_neg hy] at h; obtain ⟨m1, m2, m3, m4, m5⟩ := Zth h; refine ⟨⟨by rw [m1, Zbh]; exact n1, by rw [m2]; simp, m3⟩, ?_, ?_⟩
    ·unfold linT; rw [m1, m2]
     conv => lhs; rw [n3, m4]
     simp [labT]
    ·unfold linT; rw [m1, m2, m5, n2]; simp [labT]; omega
theorem Zxr {x : SmD} (hx : smG x) : pSamp (linT x) 0 = .ok (x, (linT x).length) := by
 obtain ⟨hn, hl, hv⟩ := hx
 by_cases h0 : x.ls = []
 ·have e : linT x = x.nm.data.toList ++ 32 :: Lib.itoa x.v := (by unfold linT; rw [h0]; simp [labT]); have h1 : (linT x).drop 0 = x.nm.data.toList ++ 32 :: Lib.itoa x.v := e; have g1 := Zkk hn h1 (fun c r' e => by cases e; decide); have h2 := Zbc h1; have g2 := Zti (nm := x.nm.data.toList) (ls := []) hv h2; unfold pSamp; rw [g1]; simp only; rw [(Zam.1 h2).1]; simp only; rw [if_neg (by decide), g2, bA_l]; have : x = ⟨x.nm, [], x.v⟩ := (by rw [← h0]); rw [← this, e]; congr 2; simp; omega
 ·have e : linT x = x.nm.data.toList ++ 123 :: (labB x.ls ++ 125 :: 32 :: Lib.itoa x.v) := (by unfold linT; rw [List.append_assoc _ (labT x.ls), Ztg h0]; simp); have h1 : (linT x).drop 0 = x.nm.data.toList ++ 123 :: (labB x.ls ++ 125 :: 32 :: Lib.itoa x.v) := e; have g1 := Zkk hn h1 (fun c r' e => by cases e; decide); have h2 := Zbc h1; obtain ⟨h3, h4⟩ := Zam.1 h2; have hlen : x.ls.length ≤ (linT x).length + 1 - (0 + x.nm.data.toList.length + 1) := (by have := Zqq x.ls; rw [e]; simp; omega); have g2 := Ztf h0 hl h4 hlen; have h5 : (linT x).drop (0 + x.nm.data.toList.length + 1 + (labB x.ls).length + 1) = 32 :: Lib.itoa x.v := (by have := Zbc h4; exact (Zam.1 this).2); have g3 := Zti (nm := x.nm.data.toList) (ls := x.ls) hv h5; unfold pSamp; rw [g1]; simp only; rw [h3]; simp only; rw [if_pos (by trivial), g2]; simp only; rw [g3, bA_l, e]; congr 2; simp; omega

/- Lines. -/
structure LnD where
 kd : Int
 nm : ByteArray
 hp : ByteArray
 of : Int
 sm : SmD
def sm0 : SmD := ⟨bA [], [], 0⟩
abbrev Zdt : Tx := [72, 69, 76, 80, 32]
abbrev Zhp : Tx := [84, 89, 80, 69, 32]
def pHelp (t : Tx) (a : Nat) : Except Nat (LnD × Nat) := match pNeed t Zdt a with
 | .error b => .error b
 | .ok (_, b) => match pName t b with
  | .error c => .error c
  | .ok (nm, c) => match pNeed t [32] c with
   | .error d => .error d
   | .ok (_, d) => match pEsc false t d with
    | .error e => .error e
    | .ok (hp, e) => .ok (⟨1, bA nm, bA hp, 0, sm0⟩, e)
def pType (t : Tx) (a : Nat) : Except Nat (LnD × Nat) := match pNeed t Zhp a with
 | .error b => .error b
 | .ok (_, b) => match pName t b with
  | .error c => .error c
  | .ok (nm, c) => match pNeed t [32] c with
   | .error d => .error d
   | .ok (_, d) => match pKind t d with
    | .error e => .error e
    | .ok (k, e) => .ok (⟨2, bA nm, bA [], k, sm0⟩, e)
def pLine (t : Tx) : Except Nat (LnD × Nat) := match t[0]? with
 | none => .error 0
 | some x => if x = 35 then (match pNeed t [35, 32] 0 with
   | .error b => .error b
   | .ok (_, b) => match t[b]? with
    | none => .error b
    | some y => if y = 72 then pHelp t b else pType t b)
  else (match pSamp t 0 with
   | .error b => .error b
   | .ok (x, b) => .ok (⟨3, bA [], bA [], 0, x⟩, b))
def pRead (t : Tx) (ended : Bool) : Except Nat LnD := match pLine t with
 | .error b => .error b
 | .ok (l, b) => if b < t.length ∨ ended = false then .error b else .ok l

def hlL (nm hp : Tx) : Tx := 35 :: 32 :: 72 :: 69 :: 76 :: 80 :: 32 :: (nm ++ 32 :: hlpT hp)
def tyL (nm : Tx) (k : Int) : Tx := 35 :: 32 :: 84 :: 89 :: 80 :: 69 :: 32 :: (nm ++ 32 :: wrdT k)
def lnT (l : LnD) : Tx := if l.kd = 1 then hlL l.nm.data.toList l.hp.data.toList else if l.kd = 2 then tyL l.nm.data.toList l.of else linT l.sm
inductive lnG : LnD → Prop
 | help (nm hp : ByteArray) (h : nmG nm.data.toList) : lnG ⟨1, nm, hp, 0, sm0⟩
 | type (nm : ByteArray) (k : Int) (h : nmG nm.data.toList) (hk : 1 ≤ k ∧ k ≤ 3) : lnG ⟨2, nm, bA [], k, sm0⟩
 | samp (x : SmD) (h : smG x) : lnG ⟨3, bA [], bA [], 0, x⟩

theorem Zo9 {α : Type} {t w : Tx} {v k : α} {a b : Nat} (h : pWord t w v a = .ok (k, b)) : k = v ∧ t.drop a = w ++ t.drop b ∧ b = a + w.length := by
 unfold pWord at h
 cases h1 : pNeed t w a with
 | error e => rw [h1] at h; cases h
 | ok q =>
  obtain ⟨u, c⟩ := q; rw [h1] at h
  cases h
  obtain ⟨g1, g2⟩ := Zct h1; exact ⟨rfl, g2, g1⟩
theorem Zpa {α : Type} {t w r : Tx} {v : α} {a : Nat} (h : t.drop a = w ++ r) : pWord t w v a = .ok (v, a + w.length) := by
 unfold pWord; rw [Zc9 h]
theorem Ztk {t : Tx} {a b : Nat} {k : Int} (h : pKind t a = .ok (k, b)) : (1 ≤ k ∧ k ≤ 3) ∧ t.drop a = wrdT k ++ t.drop b ∧ b = a + (wrdT k).length := by
 unfold pKind at h
 cases hc : t[a]? with
 | none => rw [hc] at h; cases h
 | some x =>
  rw [hc] at h; simp only at h
  split at h
  ·obtain ⟨rfl, h1, h2⟩ := Zo9 h; exact ⟨by decide, h1, h2⟩
  ·split at h
   ·obtain ⟨rfl, h1, h2⟩ := Zo9 h; exact ⟨by decide, h1, h2⟩
   ·obtain ⟨rfl, h1, h2⟩ := Zo9 h; exact ⟨by decide, h1, h2⟩
theorem Zxs {t : Tx} {a : Nat} {k : Int} (hk : 1 ≤ k ∧ k ≤ 3) (h : t.drop a = wrdT k) : pKind t a = .ok (k, a + (wrdT k).length) := by
 have h3 : k = 1 ∨ k = 2 ∨ k = 3 := by omega
 rcases h3 with rfl | rfl | rfl
 ·have h' : t.drop a = [99, 111, 117, 110, 116, 101, 114] ++ [] := h; unfold pKind; rw [(Zam.1 h').1]; simp only; rw [if_pos (by trivial), Zpa h']; rfl
 ·have h' : t.drop a = [103, 97, 117, 103, 101] ++ [] := h; unfold pKind; rw [(Zam.1 h').1]; simp only; rw [if_neg (by decide), if_pos (by trivial), Zpa h']; rfl
 ·have h' : t.drop a = [104, 105, 115, 116, 111, 103, 114, 97, 109] ++ [] := h; unfold pKind; rw [(Zam.1 h').1]; simp only; rw [if_neg (by decide), if_neg (by decide), Zpa h']; rfl

theorem Ztl {t r : Tx} {n : Nat} (h : t = r ++ t.drop n) (hn : n = r.length) (hlt : ¬ n < t.length) : t = r := by
 rw [List.drop_of_length_le (by omega), List.append_nil] at h; exact h
theorem Zmy {t : Tx} {l : LnD} (h : pRead t true = .ok l) (ht : 10 ∉ t) : lnG l ∧ t = lnT l := by
 have ht0 : 10 ∉ t.drop 0 := ht; unfold pRead at h
 cases hp : pLine t with
 | error e => rw [hp] at h; cases h
 | ok q =>
  obtain ⟨l', b⟩ := q; rw [hp] at h; simp only at h
  split at h
  ·cases h
  ·rename_i hb
   cases h
   have hb2 : ¬ b < t.length := fun q => hb (.inl q); unfold pLine at hp
   cases hx : t[0]? with
   | none => rw [hx] at hp; cases hp
   | some x =>
    rw [hx] at hp; simp only at hp
    split at hp
    ·cases h1 : pNeed t [35, 32] 0 with
     | error e => rw [h1] at hp; cases hp
     | ok q1 =>
      obtain ⟨u1, b1⟩ := q1; rw [h1] at hp; simp only at hp; obtain ⟨g1, g2⟩ := Zct h1; rw [List.drop_zero] at g2; have eb1 : b1 = 2 := g1
      cases hy : t[b1]? with
      | none => rw [hy] at hp; cases hp
      | some y =>
       rw [hy] at hp; simp only at hp
       split at hp
       ·unfold pHelp at hp
        cases h2 : pNeed t Zdt b1 with
        | error e => rw [h2] at hp; cases hp
        | ok q2 =>
         obtain ⟨u2, b2⟩ := q2; rw [h2] at hp; simp only at hp; obtain ⟨k1, k2⟩ := Zct h2
         cases h3 : pName t b2 with
         | error e => rw [h3] at hp; cases hp
         | ok q3 =>
          obtain ⟨nm, b3⟩ := q3; rw [h3] at hp; simp only at hp; obtain ⟨n1, n2, n3⟩ := Zmv h3
          cases h4 : pNeed t [32] b3 with
          | error e => rw [h4] at hp; cases hp
          | ok q4 =>
           obtain ⟨u4, b4⟩ := q4; rw [h4] at hp; simp only at hp; obtain ⟨m1, m2⟩ := Zct h4
           cases h5 : pEsc false t b4 with
           | error e => rw [h5] at hp; cases hp
           | ok q5 =>
            obtain ⟨hp', b5⟩ := q5; rw [h5] at hp
            cases hp
            obtain ⟨r, e1, e2, e3⟩ := Zn2 _ (Nat.le_refl _) h5 (Zfr (Nat.zero_le _) ht0)
            have er : r = [] := by
             rcases e3 with e3 | ⟨e3, _⟩
             ·exact e3
             ·cases e3
            subst er; rw [List.append_nil] at e1; refine ⟨.help _ _ (by rw [Zbh]; exact n1), ?_⟩; show t = hlL _ _; unfold hlL; rw [Zbh, Zbh]
            conv => lhs; rw [g2, k2, n3, m2, e1]
            rfl
       ·unfold pType at hp
        cases h2 : pNeed t Zhp b1 with
        | error e => rw [h2] at hp; cases hp
        | ok q2 =>
         obtain ⟨u2, b2⟩ := q2; rw [h2] at hp; simp only at hp; obtain ⟨k1, k2⟩ := Zct h2
         cases h3 : pName t b2 with
         | error e => rw [h3] at hp; cases hp
         | ok q3 =>
          obtain ⟨nm, b3⟩ := q3; rw [h3] at hp; simp only at hp; obtain ⟨n1, n2, n3⟩ := Zmv h3
          cases h4 : pNeed t [32] b3 with
          | error e => rw [h4] at hp; cases hp
          | ok q4 =>
           obtain ⟨u4, b4⟩ := q4; rw [h4] at hp; simp only at hp; obtain ⟨m1, m2⟩ := Zct h4
           cases h5 : pKind t b4 with
           | error e => rw [h5] at hp; cases hp
           | ok q5 =>
            obtain ⟨k, b5⟩ := q5; rw [h5] at hp
            cases hp
            obtain ⟨e1, e2, e3⟩ := Ztk h5; refine ⟨.type _ _ (by rw [Zbh]; exact n1) e1, ?_⟩; show t = tyL _ _; unfold tyL; rw [Zbh]; have e4 : t.drop b = [] := List.drop_of_length_le (by omega); rw [e4, List.append_nil] at e2
            conv => lhs; rw [g2, k2, n3, m2, e2]
            rfl
    ·cases h1 : pSamp t 0 with
     | error e => rw [h1] at hp; cases hp
     | ok q1 =>
      obtain ⟨x1, b1⟩ := q1; rw [h1] at hp
      cases hp
      obtain ⟨g1, g2, g3⟩ := Ztj h1 ht; exact ⟨.samp _ g1, Ztl g2 g3 hb2⟩
theorem Zxt {l : LnD} (h : lnG l) : pRead (lnT l) true = .ok l := by
 cases h with
 | help nm hp hn =>
  show pRead (hlL nm.data.toList hp.data.toList) true = _; generalize ht : hlL nm.data.toList hp.data.toList = t; have h0 : t.drop 0 = [35, 32] ++ (Zdt ++ (nm.data.toList ++ 32 :: hlpT hp.data.toList)) := by rw [← ht]; rfl
  have g1 := Zc9 h0; have h1 := Zbc h0; have g2 := Zc9 h1; have h2 := Zbc h1; have g3 := Zkk hn h2 (fun c r' e => by cases e; decide); have h3 := Zbc h2; have g4 := Zc9 (w := [32]) (r := hlpT hp.data.toList) h3; have h4 := Zbc (x := [32]) h3; have g5 : pEsc false t (0 + [(35 : UInt8), 32].length + Zdt.length + nm.data.toList.length + [(32 : UInt8)].length) = .ok (hp.data.toList, 0 + [(35 : UInt8), 32].length + Zdt.length + nm.data.toList.length + [(32 : UInt8)].length + (escT false hp.data.toList).length) := (by unfold pEsc; rw [h4]; have := Zqm (v := false) (r := []) (.inl rfl) hp.data.toList (0 + [(35 : UInt8), 32].length + Zdt.length + nm.data.toList.length + [(32 : UInt8)].length); rw [List.append_nil] at this; exact this); have hx : t[0]? = some 35 := (Zam.1 h0).1; have hy : t[0 + [(35 : UInt8), 32].length]? = some 72 := (Zam.1 h1).1; have hlen : ¬ (0 + [(35 : UInt8), 32].length + Zdt.length + nm.data.toList.length + [(32 : UInt8)].length + (escT false hp.data.toList).length < t.length) := (by rw [← ht, Zxq]; simp [hlL]; omega); unfold pRead pLine; rw [hx]; simp only; rw [if_pos (by trivial), g1]; simp only; rw [hy]; simp only; rw [if_pos (by trivial)]; unfold pHelp; rw [g2]; simp only; rw [g3]; simp only; rw [g4]; simp only; rw [g5]; simp only
  rw [if_neg (by rintro (h | h); · exact hlen h
                 ·cases h), bA_l, bA_l]
 | type nm k hn hk =>
  show pRead (tyL nm.data.toList k) true = _; generalize ht : tyL nm.data.toList k = t; have h0 : t.drop 0 = [35, 32] ++ (Zhp ++ (nm.data.toList ++ 32 :: wrdT k)) := by rw [← ht]; rfl
  have g1 := Zc9 h0; have h1 := Zbc h0; have g2 := Zc9 h1; have h2 := Zbc h1; have g3 := Zkk hn h2 (fun c r' e => by cases e; decide); have h3 := Zbc h2; have g4 := Zc9 (w := [32]) (r := wrdT k) h3; have h4 := Zbc (x := [32]) h3; have g5 := Zxs hk h4; have hx : t[0]? = some 35 := (Zam.1 h0).1; have hy : t[0 + [(35 : UInt8), 32].length]? = some 84 := (Zam.1 h1).1; have hlen : ¬ (0 + [(35 : UInt8), 32].length + Zhp.length + nm.data.toList.length + [(32 : UInt8)].length + (wrdT k).length < t.length) := (by rw [← ht]; simp [tyL]; omega); unfold pRead pLine; rw [hx]; simp only; rw [if_pos (by trivial), g1]; simp only; rw [hy]; simp only; rw [if_neg (by decide)]; unfold pType; rw [g2]; simp only; rw [g3]; simp only; rw [g4]; simp only; rw [g5]; simp only
  rw [if_neg (by rintro (h | h); · exact hlen h
                 ·cases h), bA_l]
 | samp x hx =>
  show pRead (linT x) true = _; have g := Zxr hx; obtain ⟨⟨c, r, e, hl, _⟩, _⟩ := hx; have hc : (linT x)[0]? = some c := by unfold linT; rw [e]; rfl
  unfold pRead pLine; rw [hc]; simp only; rw [if_neg (by intro e; subst e; revert hl; decide), g]; simp only
  rw [if_neg (by rintro (h | h); · exact Nat.lt_irrefl _ h
                 ·cases h)]

instance (l : List LaD) (p : LaD) : Decidable (∃ base, l = base ++ [p]) := decidable_of_iff (l.getLast? = some p) List.getLast?_eq_some_iff
instance (n : ByteArray) (l : List SmD) (x : SmD) (k : Nat) : Decidable (fitB n l x k) := inferInstanceAs (Decidable (_ ∧ (∃ base, _) ∧ (if k = 0 then _ else _)))
instance (n : ByteArray) (y x : SmD) (k : Nat) : Decidable (fitT n y x k) := inferInstanceAs (Decidable (_ ∧ (if k = 9 then _ else _)))
instance (n : ByteArray) (l : List SmD) (x : SmD) : Decidable (fitG n l x) := inferInstanceAs (Decidable (if l.length % 11 < 9 then _ else _))
instance (f : FaD) (x : SmD) : Decidable (fitP f x) := inferInstanceAs (Decidable (_ ∧ _ ∧ (if f.ty = 3 then _ else _)))

def Zb8 (f : FaD) : Bool := decide (0 < f.ss.length ∧ (f.ty = 3 → f.ss.length % 11 = 0))
def Zbt (fs : List FaD) : Bool := match fs.getLast? with | none => true | some f => Zb8 f
def Zd9 (fs : List FaD) (nm : ByteArray) : Bool := match fs.getLast? with | none => true | some f => !sge f.nm nm
def tk (fs : List FaD) (l : LnD) : Option (List FaD) :=
 if l.kd = 1 then (if Zbt fs = true ∧ fs.length < 40 ∧ l.nm.size ≤ 64 ∧ l.hp.size ≤ 200 ∧ Zd9 fs l.nm = true then some (fs ++ [⟨l.nm, l.hp, 0, []⟩]) else none)
 else match fs.getLast? with
  | none => none
  | some f => if l.kd = 2 then (if f.ty = 0 ∧ f.nm = l.nm then some (fs.dropLast ++ [⟨f.nm, f.hp, l.of, f.ss⟩]) else none)
   else if ¬ f.ty = 0 ∧ fitP f l.sm then some (fs.dropLast ++ [⟨f.nm, f.hp, f.ty, f.ss ++ [l.sm]⟩]) else none
def Zak (t : Tx) : Tx := t.takeWhile (· != 10)
def Zbu (t : Tx) : Tx := t.dropWhile (· != 10)
def pGo : Nat → Int → List FaD → Tx → Except (Int × Int) (List FaD)
 | 0, n, _, _ => .error (n, 0)
 | k + 1, n, fs, t => if t = [] then (if Zbt fs = true then .ok fs else .error (n + 1, 0)) else
  match Zbu t with
  | [] => (match pRead (Zak t) false with
   | .error b => .error (n + 1, b + 1)
   | .ok _ => .error (n + 1, 0))
  | _ :: r => match pRead (Zak t) true with
   | .error b => .error (n + 1, b + 1)
   | .ok l => match tk fs l with
    | none => .error (n + 1, 0)
    | some fs' => pGo k (n + 1) fs' r
def Zar (t : Tx) : Except (Int × Int) (List FaD) := pGo (t.length + 1) 0 [] t

def Zb9 : List LnD → List FaD → Option (List FaD)
 | [], fs => some fs
 | l :: ls, fs => (tk fs l).bind (Zb9 ls)
theorem Zlq : ∀ (a b : List LnD) (fs : List FaD), Zb9 (a ++ b) fs = (Zb9 a fs).bind (Zb9 b)
 | [], b, fs => rfl
 | l :: a, b, fs => by
  show (tk fs l).bind (Zb9 (a ++ b)) = ((tk fs l).bind (Zb9 a)).bind (Zb9 b)
  cases tk fs l with
  | none => rfl
  | some g => exact Zlq a b g
abbrev lnsT (ls : List LnD) : Tx := ls.flatMap fun l => lnT l ++ [10]

theorem nmcB_B {c : UInt8} (h : nmcB c = true) : nmB c := by
 apply nmC_B; unfold nmcB letB digB at h; unfold nmC; simp at h; omega
theorem Ztm {s : ByteArray} (h : nmG s.data.toList) : nmOK s := by
 refine ⟨?_, fun u hu => nmcB_B (h.all u hu)⟩; obtain ⟨c, r, e, _⟩ := h; rw [e]; simp
theorem smG_OK {x : SmD} (h : smG x) : smOK x := ⟨Ztm h.1, fun p hp => Ztm (h.2.1 p hp)⟩
theorem nm_no {s : ByteArray} (h : nmG s.data.toList) : 10 ∉ s.data.toList := Zo3 (Ztm h)
theorem lnT_no {l : LnD} (h : lnG l) : 10 ∉ lnT l := by
 cases h with
 | help nm hp hn => show 10 ∉ hlL nm.data.toList hp.data.toList; have h1 := nm_no hn; have h2 := Zxk hp.data.toList; unfold hlL; simp [h1, h2]
 | type nm k hn hk => show 10 ∉ tyL nm.data.toList k; have h1 := nm_no hn; have h2 := wrd_no k; unfold tyL; simp [h1, h2]
 | samp x hx => exact Zxm (smG_OK hx)
theorem Zvq {a r : Tx} (h : 10 ∉ a) : Zak (a ++ 10 :: r) = a ∧ Zbu (a ++ 10 :: r) = 10 :: r := by
 have hp : ∀ u ∈ a, (u != 10) = true := fun u hu => by simp only [bne_iff_ne, ne_eq]; intro e; exact h (e ▸ hu)
 unfold Zak Zbu; rw [List.takeWhile_append_of_pos hp, List.dropWhile_append_of_pos hp]; simp
theorem Zhq {t : Tx} {c : UInt8} {r : Tx} (h : Zbu t = c :: r) : c = 10 ∧ t = Zak t ++ 10 :: r ∧ 10 ∉ Zak t := by
 have h1 := List.takeWhile_append_dropWhile (p := (· != 10)) (l := t)
 have h2 : c = 10 := by
  have := List.head?_dropWhile_not (p := (· != (10 : UInt8))) t; unfold Zbu at h; rw [h] at this
  simpa using this
 subst h2; refine ⟨rfl, ?_, fun hm => ?_⟩
 ·unfold Zbu at h; rw [h] at h1; exact h1.symm
 ·have := Zql hm; simp at this
theorem go_to : ∀ (ls : List LnD) (k : Nat) (n : Int) (fs m : List FaD), (∀ l ∈ ls, lnG l) → (lnsT ls).length < k → Zb9 ls fs = some m → Zbt m = true → pGo k n fs (lnsT ls) = .ok m
 | [], k + 1, n, fs, m, _, _, h, hw => by
  cases h
  show pGo (k + 1) n fs [] = _; rw [pGo, if_pos rfl, if_pos hw]
 | l :: ls, k + 1, n, fs, m, hg, hk, h, hw => by
  have e : lnsT (l :: ls) = lnT l ++ 10 :: lnsT ls := (by simp [lnsT]); have hl := hg l (by simp); obtain ⟨h1, h2⟩ := Zvq (r := lnsT ls) (lnT_no hl); rw [e] at hk ⊢; have hk2 : (lnsT ls).length < k := (by simp only [List.length_append, List.length_cons] at hk; omega); rw [pGo, if_neg (by simp), h2, h1]; simp only; rw [Zxt hl]; simp only
  cases ht : tk fs l with
  | none => rw [Zb9, ht] at h; cases h
  | some g => rw [Zb9, ht] at h; exact go_to ls k _ g m (fun u hu => hg u (by simp [hu])) hk2 h hw
 | _, 0, _, _, _, _, h, _, _ => absurd h (Nat.not_lt_zero _)
theorem Zkl {t : Tx} {l : LnD} : pRead t false ≠ .ok l := by
 unfold pRead
 cases pLine t with
 | error e => simp
 | ok q => obtain ⟨a, b⟩ := q; simp only; rw [if_pos (.inr trivial)]; simp
theorem go_ok : ∀ (k : Nat) (n : Int) (fs m : List FaD) (t : Tx), pGo k n fs t = .ok m → ∃ ls, (∀ l ∈ ls, lnG l) ∧ t = lnsT ls ∧ Zb9 ls fs = some m ∧ Zbt m = true
 | 0, n, fs, m, t, h => by cases h
 | k + 1, n, fs, m, t, h => by
  rw [pGo] at h
  by_cases ht : t = []
  ·rw [if_pos ht] at h
   split at h
   ·rename_i hw
    cases h
    exact ⟨[], by simp, ht, rfl, hw⟩
   ·cases h
  ·rw [if_neg ht] at h
   cases hr : Zbu t with
   | nil =>
    rw [hr] at h; simp only at h
    cases hp : pRead (Zak t) false with
    | error b => rw [hp] at h; cases h
    | ok l => exact absurd hp Zkl
   | cons c r =>
    obtain ⟨hc, he, hno⟩ := Zhq hr; rw [hr] at h; simp only at h
    cases hp : pRead (Zak t) true with
    | error b => rw [hp] at h; cases h
    | ok l =>
     rw [hp] at h; simp only at h; obtain ⟨g1, g2⟩ := Zmy hp hno
     cases hk : tk fs l with
     | none => rw [hk] at h; cases h
     | some g =>
      rw [hk] at h; simp only at h; obtain ⟨ls, k1, k2, k3, k4⟩ := go_ok k _ g m r h; refine ⟨l :: ls, fun u hu => ?_, ?_, by rw [Zb9, hk]; exact k3, k4⟩
      ·rcases List.mem_cons.1 hu with rfl | hu
       ·exact g1
       ·exact k1 u hu
      ·rw [he, g2, k2]; simp [lnsT]

/- Names. -/
theorem Ztn {s : ByteArray} {i : Nat} (h : i < s.size) : badC s (i : Int) = !(letB s[i] || (digB s[i] && decide (i ≠ 0))) := by
 have e : sbyte s (i : Int) = ((s[i]'h).toNat : Int) := by
  unfold sbyte; have : s.data.getD i 0 = s[i]'h := by rw [Array.getD_eq_getD_getElem?, Array.getElem?_eq_getElem h]; rfl
  simpa using congrArg (fun c : UInt8 => (c.toNat : Int)) this
 unfold badC letB digB; rw [e]; generalize (s[i]'h).toNat = n; rw [Bool.eq_iff_iff]; simp [bpick, bnot, ige, ile, ieq]; by_cases h0 : i = 0 <;> simp [h0] <;> omega
theorem Zn3 (s : ByteArray) : namP s ↔ nmG s.data.toList ∧ s.size ≤ 64 := by
 have hsz : s.data.toList.length = s.size := Zdp s; have hget : ∀ (i : Nat) (h : i < s.size), s.data.toList[i]? = some (s[i]'h) := fun i h => Zav h; constructor
 ·rintro ⟨⟨h1, h2⟩, h3⟩; refine ⟨?_, h2⟩
  cases hl : s.data.toList with
  | nil => rw [hl] at hsz; simp at hsz; omega
  | cons c r =>
   have g := fun i h => by have := h3 i h; rw [Ztn h] at this; exact this
   have gc : ∀ (i : Nat) (u : UInt8), (c :: r)[i]? = some u → letB u = true ∨ (digB u = true ∧ i ≠ 0) := fun i u hu => by
    have hi : i < s.size := (by have := (List.getElem?_eq_some_iff.1 hu).1; rw [← hl, hsz] at this; exact this); have := g i hi; have e := hget i hi; rw [hl, hu] at e
    cases e
    cases hb : letB s[i] with
    | true => exact .inl rfl
    | false => rw [hb] at this; exact .inr (by simpa using this)
   refine ⟨c, r, rfl, ?_, fun u hu => ?_⟩
   ·rcases gc 0 c rfl with h | h
    ·exact h
    ·exact absurd rfl h.2
   ·obtain ⟨i, hi, rfl⟩ := List.mem_iff_getElem.1 hu; unfold nmcB
    rcases gc (i + 1) r[i] (by simp) with h | h
    ·rw [h]; rfl
    ·rw [h.1]; simp
 ·rintro ⟨⟨c, r, e, h1, h2⟩, h3⟩; have hpos : 1 ≤ s.size := by rw [← hsz, e]; simp
  refine ⟨⟨hpos, h3⟩, fun i hi => ?_⟩; rw [Ztn hi]; have he := hget i hi; rw [e] at he
  cases i with
  | zero => have : c = s[0] := (by simpa using he); rw [← this, h1]; rfl
  | succ i =>
   have hm : s[i + 1] ∈ r := (by simp only [List.getElem?_cons_succ] at he; exact List.mem_of_getElem? he); have := h2 _ hm; unfold nmcB at this
   rcases Bool.or_eq_true _ _ ▸ this with h | h
   ·simp [h]
   ·simp [h]

/- Families and their lines. -/
abbrev hLn (f : FaD) : LnD := ⟨1, f.nm, f.hp, 0, sm0⟩
abbrev tLn (f : FaD) : LnD := ⟨2, f.nm, bA [], f.ty, sm0⟩
abbrev sLn (x : SmD) : LnD := ⟨3, bA [], bA [], 0, x⟩
def lnsF (f : FaD) : List LnD := hLn f :: (if f.ty = 0 then [] else tLn f :: f.ss.map sLn)
theorem Zwd {f : FaD} (h : ¬ f.ty = 0) : lnsT (lnsF f) = famT f := by
 unfold lnsT lnsF famT; rw [if_neg h]; have e : (f.ss.map sLn).flatMap (fun l => lnT l ++ [10]) = samT f.ss := (by unfold samT; rw [List.flatMap_map]; rfl); rw [List.flatMap_cons, List.flatMap_cons, e]; show (hlL f.nm.data.toList f.hp.data.toList ++ [10]) ++ ((tyL f.nm.data.toList f.ty ++ [10]) ++ _) = _; simp [hlL, tyL, hdH, hdT]
structure okF (f : FaD) : Prop where
 nm : nmG f.nm.data.toList
 sz : f.nm.size ≤ 64
 hp : f.hp.size ≤ 200
 ty : 0 ≤ f.ty ∧ f.ty ≤ 3
 no : f.ty = 0 → f.ss = []
 up : Zf9 f f.ss.length
 sm : ∀ x ∈ f.ss, smG x
structure InvP (fs : List FaD) (ls : List LnD) : Prop where
 ln : ls = fs.flatMap lnsF
 le : fs.length ≤ 40
 ok : ∀ f ∈ fs, okF f
 wh : ∀ f ∈ fs.dropLast, Zb8 f = true
 up : ∀ k : Nat, ∀ h : k + 1 < fs.length, sge fs[k].nm fs[k + 1].nm = false
theorem Zgs (fs : List FaD) : fs = [] ∨ ∃ gs f, fs = gs ++ [f] := by
 rcases List.eq_nil_or_concat fs with h | ⟨gs, f, h⟩
 ·exact .inl h
 ·exact .inr ⟨gs, f, by simpa using h⟩
theorem Zxu {l : List SmD} {x : SmD} {i : Nat} (h : i < l.length) : gat (l ++ [x]) i = gat l i := by
 unfold gat; rw [List.getD_eq_getElem?_getD, List.getD_eq_getElem?_getD, List.getElem?_append_left h]
theorem Zxv (l : List SmD) (x : SmD) : gat (l ++ [x]) l.length = x := by
 unfold gat; rw [List.getD_eq_getElem?_getD]; simp
theorem Zto {gs : List FaD} {f g : FaD} (hn : g.nm = f.nm) (h : ∀ k : Nat, ∀ h : k + 1 < (gs ++ [f]).length, sge (gs ++ [f])[k].nm (gs ++ [f])[k + 1].nm = false) : ∀ k : Nat, ∀ h : k + 1 < (gs ++ [g]).length, sge (gs ++ [g])[k].nm (gs ++ [g])[k + 1].nm = false := by
 intro k hk; have hk' : k + 1 < (gs ++ [f]).length := (by simpa using hk); have e := h k hk'
 have nmeq : ∀ (j : Nat) (h1 : j < (gs ++ [g]).length) (h2 : j < (gs ++ [f]).length), (gs ++ [g])[j].nm = (gs ++ [f])[j].nm := fun j h1 h2 => by
  by_cases hj : j < gs.length
  ·rw [List.getElem_append_left hj, List.getElem_append_left hj]
  ·have : j = gs.length := (by simp at h1; omega); subst this; simp [hn]
 rw [nmeq k (by omega) (by omega), nmeq (k + 1) hk hk']; exact e
theorem Zvr {f : FaD} {x : SmD} (h : Zf9 f f.ss.length) (hx : fitP f x) : Zf9 ⟨f.nm, f.hp, f.ty, f.ss ++ [x]⟩ (f.ss ++ [x]).length := by
 intro i hi; simp only [List.length_append, List.length_singleton] at hi; by_cases h1 : i < f.ss.length
 ·have := h i h1; have e1 : upto ⟨f.nm, f.hp, f.ty, f.ss ++ [x]⟩ i = upto f i := (by unfold upto; simp only; rw [List.take_append_of_le_length (by omega)]); rw [e1, show gat (FaD.mk f.nm f.hp f.ty (f.ss ++ [x])).ss i = gat f.ss i from Zxu h1]; exact this
 ·have : i = f.ss.length := (by omega); subst this; have e1 : upto ⟨f.nm, f.hp, f.ty, f.ss ++ [x]⟩ f.ss.length = f := (by unfold upto; simp only; rw [List.take_left]); rw [e1, show gat (FaD.mk f.nm f.hp f.ty (f.ss ++ [x])).ss f.ss.length = x from Zxv _ _]; exact hx
theorem Ztp {fs fs' : List FaD} {ls : List LnD} {l : LnD} (hI : InvP fs ls) (hl : lnG l) (h : tk fs l = some fs') : InvP fs' (ls ++ [l]) := by
 cases hl with
 | help nm hp hn =>
  unfold tk at h; rw [if_pos rfl] at h
  split at h
  ·rename_i hc
   cases h
   obtain ⟨h1, h2, h3, h4, h5⟩ := hc; refine ⟨?_, by simp; omega, ?_, ?_, ?_⟩
   ·rw [hI.ln, List.flatMap_append]; simp [lnsF]
   ·intro f hf
    rcases List.mem_append.1 hf with hf | hf
    ·exact hI.ok f hf
    ·have : f = ⟨nm, hp, 0, []⟩ := (by simpa using hf); subst this; exact ⟨hn, h3, h4, (by show (0 : Int) ≤ 0 ∧ (0 : Int) ≤ 3; decide), fun _ => rfl, fun i hi => absurd hi (Nat.not_lt_zero _), fun x hx => by cases hx⟩
   ·intro f hf; rw [List.dropLast_concat] at hf
    rcases Zgs fs with rfl | ⟨gs, g, rfl⟩
    ·cases hf
    ·rcases List.mem_append.1 hf with hf | hf
     ·exact hI.wh f (by rw [List.dropLast_concat]; exact hf)
     ·have : f = g := (by simpa using hf); subst this; unfold Zbt at h1
      simpa using h1
   ·intro k hk; by_cases hk2 : k + 1 < fs.length
    ·rw [List.getElem_append_left (by omega), List.getElem_append_left hk2]; exact hI.up k hk2
    ·have hk3 : k + 1 = fs.length := by simp at hk; omega
     rcases Zgs fs with rfl | ⟨gs, g, rfl⟩
     ·simp at hk3
     ·have hk4 : k = gs.length := (by simp at hk3; omega); subst hk4; unfold Zd9 at h5; have h6 : sge g.nm nm = false := by simpa using h5
      simpa using h6
  ·cases h
 | type nm k hn hk =>
  unfold tk at h; rw [if_neg (by show ¬ (2 : Int) = 1; decide)] at h
  rcases Zgs fs with rfl | ⟨gs, f, rfl⟩
  ·cases h
  ·have e1 : (gs ++ [f]).getLast? = some f := (by simp); rw [e1] at h; simp only at h; rw [if_pos trivial, List.dropLast_concat] at h
   split at h
   ·rename_i hc
    cases h
    obtain ⟨h1, h2⟩ := hc; have hf := hI.ok f (by simp); have hss := hf.no h1; refine ⟨?_, by have := hI.le; simpa using this, ?_, ?_, ?_⟩
    ·rw [hI.ln, List.flatMap_append, List.flatMap_append, List.append_assoc]; congr 1; have hk0 : ¬ k = 0 := (by omega); simp [lnsF, h1, hk0, hss, h2]
    ·intro g hg
     rcases List.mem_append.1 hg with hg | hg
     ·exact hI.ok g (by simp [hg])
     ·have : g = ⟨f.nm, f.hp, k, f.ss⟩ := (by simpa using hg); subst this; exact ⟨hf.nm, hf.sz, hf.hp, ⟨by show 0 ≤ k; omega, hk.2⟩, fun _ => hss, fun i hi => by rw [show (FaD.mk f.nm f.hp k f.ss).ss = [] from hss] at hi; exact absurd hi (Nat.not_lt_zero _), hf.sm⟩
    ·intro g hg; rw [List.dropLast_concat] at hg; exact hI.wh g (by rw [List.dropLast_concat]; exact hg)
    ·exact Zto (f := f) rfl hI.up
   ·cases h
 | samp x hx =>
  unfold tk at h; rw [if_neg (by show ¬ (3 : Int) = 1; decide)] at h
  rcases Zgs fs with rfl | ⟨gs, f, rfl⟩
  ·cases h
  ·have e1 : (gs ++ [f]).getLast? = some f := (by simp); rw [e1] at h; simp only at h; rw [if_neg (by decide), List.dropLast_concat] at h
   split at h
   ·rename_i hc
    cases h
    obtain ⟨h1, h2⟩ := hc; have hf := hI.ok f (by simp); refine ⟨?_, by have := hI.le; simpa using this, ?_, ?_, ?_⟩
    ·rw [hI.ln, List.flatMap_append, List.flatMap_append, List.append_assoc]; congr 1; simp [lnsF, h1]
    ·intro g hg
     rcases List.mem_append.1 hg with hg | hg
     ·exact hI.ok g (by simp [hg])
     ·have : g = ⟨f.nm, f.hp, f.ty, f.ss ++ [x]⟩ := (by simpa using hg); subst this; refine ⟨hf.nm, hf.sz, hf.hp, hf.ty, fun q => absurd q h1, Zvr hf.up h2, fun y hy => ?_⟩
      rcases List.mem_append.1 hy with hy | hy
      ·exact hf.sm y hy
      ·have : y = x := (by simpa using hy); subst this; exact hx
    ·intro g hg; rw [List.dropLast_concat] at hg; exact hI.wh g (by rw [List.dropLast_concat]; exact hg)
    ·exact Zto (f := f) rfl hI.up
   ·cases h
theorem Zqr : ∀ (ls done : List LnD) (fs m : List FaD), InvP fs done → (∀ l ∈ ls, lnG l) → Zb9 ls fs = some m → InvP m (done ++ ls)
 | [], done, fs, m, hI, _, h => by cases h; simpa using hI
 | l :: ls, done, fs, m, hI, hl, h => by
  rw [Zb9] at h
  cases ht : tk fs l with
  | none => rw [ht] at h; cases h
  | some g =>
   rw [ht] at h; have := Zqr ls (done ++ [l]) g m (Ztp hI (hl l (by simp)) ht) (fun u hu => hl u (by simp [hu])) h
   simpa using this
theorem Zpb : InvP [] [] := ⟨rfl, (by simp), (fun f hf => absurd hf (by simp)), (fun f hf => absurd hf (by simp)), (fun k hk => absurd hk (by simp))⟩
theorem Zlr {α β : Type} {l : List α} {f g : α → List β} (h : ∀ a ∈ l, f a = g a) : l.flatMap f = l.flatMap g := by
 induction l with
 | nil => rfl
 | cons a l ih => rw [List.flatMap_cons, List.flatMap_cons, h a (by simp), ih (fun b hb => h b (by simp [hb]))]
theorem Zxw {f : FaD} (h : okF f) (hw : Zb8 f = true) : famP f := by
 unfold Zb8 at hw; have hw := of_decide_eq_true hw; rw [Zoc]; refine ⟨⟨(Zn3 _).2 ⟨h.nm, h.sz⟩, h.hp, ⟨?_, h.ty.2⟩, hw⟩, h.up⟩; by_cases h0 : f.ty = 0
 ·rw [h.no h0] at hw; simp at hw
 ·have := h.ty.1; omega
theorem Zxx {m : List FaD} {ls : List LnD} (h : InvP m ls) (hw : Zbt m = true) : allP m ∧ (∀ f ∈ m, rgF f) ∧ lnsT ls = txtT m := by
 have hwh : ∀ f ∈ m, Zb8 f = true := by
  intro f hf
  rcases Zgs m with rfl | ⟨gs, g, rfl⟩
  ·cases hf
  ·rcases List.mem_append.1 hf with hf | hf
   ·exact h.wh f (by rw [List.dropLast_concat]; exact hf)
   ·have : f = g := (by simpa using hf); subst this; unfold Zbt at hw
    simpa using hw
 have hfam : ∀ f ∈ m, famP f := fun f hf => Zxw (h.ok f hf) (hwh f hf); refine ⟨⟨h.le, fun k hk hk2 => ⟨hfam _ (List.getElem_mem hk2), fun hp => ?_⟩⟩, fun f hf x hx => ((h.ok f hf).sm x hx).2.2, ?_⟩
 ·have := h.up (k - 1) (by omega); have e : k - 1 + 1 = k := (by omega); simp only [e] at this; exact this
 ·rw [h.ln]; unfold lnsT txtT; rw [List.flatMap_assoc]; refine Zlr fun f hf => ?_; exact Zwd (fun h0 => by have := (hfam f hf).1.2.2.1.1; omega)

theorem Zxy {f : FaD} (hf : famP f) (hr : rgF f) : ∀ x ∈ f.ss, smG x := by
 intro x hx; have hn := ((Zn3 _).1 hf.1.1).1
 have happ : ∀ b : ByteArray, (∀ u ∈ b.data.toList, nmcB u = true) → nmG (f.nm ++ b).data.toList := fun b hb => by
  obtain ⟨c, r, e, h1, h2⟩ := hn; refine ⟨c, r ++ b.data.toList, ?_, h1, fun u hu => ?_⟩
  ·rw [ByteArray.data_append, Array.toList_append, e]; rfl
  ·rcases List.mem_append.1 hu with hu | hu
   ·exact h2 u hu
   ·exact hb u hu
 refine ⟨?_, fun p hp => ?_, hr x hx⟩
 ·rcases Zve hf hx with e | e | e | e
  ·rw [e]; exact hn
  ·rw [e]; exact happ _ (by decide)
  ·rw [e]; exact happ _ (by decide)
  ·rw [e]; exact happ _ (by decide)
 ·obtain ⟨k, hk, rfl⟩ := List.mem_iff_getElem.1 hp; exact ((Zn3 _).1 ((hf.2.1 x hx).2 k hk hk).1).1
theorem Zqs {f : FaD} {gs : List FaD} (h0 : ¬ f.ty = 0) (hf : Zf9 f f.ss.length) : ∀ (rest done : List SmD), f.ss = done ++ rest → Zb9 (rest.map sLn) (gs ++ [⟨f.nm, f.hp, f.ty, done⟩]) = some (gs ++ [f])
 | [], done, e => by rw [List.append_nil] at e; show some _ = some _; rw [← e]
 | x :: rest, done, e => by have hd : done.length < f.ss.length := (by rw [e]; simp); have hfit := hf done.length hd; have e1 : upto f done.length = ⟨f.nm, f.hp, f.ty, done⟩ := (by unfold upto; rw [e, List.take_left]); have e2 : gat f.ss done.length = x := (by unfold gat; rw [e, List.getD_eq_getElem?_getD]; simp); rw [e1, e2] at hfit; have ht : tk (gs ++ [⟨f.nm, f.hp, f.ty, done⟩]) (sLn x) = some (gs ++ [⟨f.nm, f.hp, f.ty, done ++ [x]⟩]) := (by unfold tk; rw [if_neg (by show ¬ (3 : Int) = 1; decide)]; have e3 : (gs ++ [FaD.mk f.nm f.hp f.ty done]).getLast? = some ⟨f.nm, f.hp, f.ty, done⟩ := (by simp); rw [e3]; simp only; rw [if_neg (by decide), List.dropLast_concat, if_pos ⟨h0, hfit⟩]); rw [List.map_cons, Zb9, ht]; exact Zqs h0 hf rest (done ++ [x]) (by rw [e]; simp)
theorem Zvs {f : FaD} {fs : List FaD} (hf : famP f) (hw : Zbt fs = true) (hl : fs.length < 40) (ha : Zd9 fs f.nm = true) : Zb9 (lnsF f) fs = some (fs ++ [f]) := by
 have h1 := (Zoc f).1 hf; have h0 : ¬ f.ty = 0 := (by have := hf.1.2.2.1.1; omega); have hn := (Zn3 _).1 hf.1.1; unfold lnsF; rw [if_neg h0]; have t1 : tk fs (hLn f) = some (fs ++ [⟨f.nm, f.hp, 0, []⟩]) := (by unfold tk; rw [if_pos rfl, if_pos ⟨hw, hl, hn.2, hf.1.2.1, ha⟩]); have t2 : tk (fs ++ [⟨f.nm, f.hp, 0, []⟩]) (tLn f) = some (fs ++ [⟨f.nm, f.hp, f.ty, []⟩]) := (by unfold tk; rw [if_neg (by show ¬ (2 : Int) = 1; decide)]; have e3 : (fs ++ [FaD.mk f.nm f.hp 0 []]).getLast? = some ⟨f.nm, f.hp, 0, []⟩ := (by simp); rw [e3]; simp only; rw [if_pos trivial, if_pos ⟨trivial, trivial⟩, List.dropLast_concat]); rw [Zb9, t1]; show Zb9 (tLn f :: f.ss.map sLn) _ = _; rw [Zb9, t2]; exact Zqs h0 h1.2 f.ss [] rfl
theorem Zls {f : FaD} (h : famP f) : Zb8 f = true := decide_eq_true ((Zoc f).1 h).1.2.2.2
theorem Zqt : ∀ (ms fs : List FaD), allP (fs ++ ms) → Zb9 (ms.flatMap lnsF) fs = some (fs ++ ms)
 | [], fs, _ => by simp [Zb9]
 | f :: ms, fs, h => by
  have hk : fs.length < (fs ++ f :: ms).length := (by simp); obtain ⟨hf, hg⟩ := h.2 fs.length hk hk; have e1 : (fs ++ f :: ms)[fs.length] = f := (by simp); rw [e1] at hf hg
  have hw : Zbt fs = true ∧ Zd9 fs f.nm = true := by
   rcases Zgs fs with rfl | ⟨gs, g, rfl⟩
   ·exact ⟨rfl, rfl⟩
   ·have hk2 : gs.length < (gs ++ [g] ++ f :: ms).length := (by simp); have hgf := (h.2 gs.length hk2 hk2).1; have e2 : (gs ++ [g] ++ f :: ms)[gs.length] = g := (by simp); rw [e2] at hgf; have hg2 := hg (by simp); have e3 : (gs ++ [g] ++ f :: ms)[(gs ++ [g]).length - 1]'(by simp) = g := (by simp); rw [e3] at hg2; refine ⟨?_, ?_⟩
    ·unfold Zbt; simpa using Zls hgf
    ·unfold Zd9; simpa using hg2
  have hlen : fs.length < 40 := (by have := h.1; simp at this; omega); rw [List.flatMap_cons, Zlq, Zvs hf hw.1 hlen hw.2]; show Zb9 _ _ = _; rw [Zqt ms (fs ++ [f]) (by simpa using h)]; simp
theorem Ztq {m : List FaD} (h : allP m) : Zbt m = true := by
 rcases Zgs m with rfl | ⟨gs, g, rfl⟩
 ·rfl
 ·have hk : gs.length < (gs ++ [g]).length := (by simp); have := (h.2 gs.length hk hk).1; have e : (gs ++ [g])[gs.length] = g := (by simp); rw [e] at this; unfold Zbt; simpa using Zls this
theorem all_ln {m : List FaD} (h : allP m) (hr : ∀ f ∈ m, rgF f) : (∀ l ∈ m.flatMap lnsF, lnG l) ∧ lnsT (m.flatMap lnsF) = txtT m := by
 have hfam : ∀ f ∈ m, famP f := fun f hf => by obtain ⟨k, hk, rfl⟩ := List.mem_iff_getElem.1 hf; exact (h.2 k hk hk).1
 refine ⟨fun l hl => ?_, ?_⟩
 ·obtain ⟨f, hf, hl⟩ := List.mem_flatMap.1 hl; have hp := hfam f hf; have h0 : ¬ f.ty = 0 := by have := hp.1.2.2.1.1; omega
  have hn := ((Zn3 _).1 hp.1.1).1; unfold lnsF at hl; rw [if_neg h0] at hl
  rcases List.mem_cons.1 hl with rfl | hl
  ·exact .help _ _ hn
  ·rcases List.mem_cons.1 hl with rfl | hl
   ·exact .type _ _ hn hp.1.2.2.1
   ·obtain ⟨x, hx, rfl⟩ := List.mem_map.1 hl; exact .samp x (Zxy hp (hr f hf) x hx)
 ·unfold lnsT txtT; rw [List.flatMap_assoc]; refine Zlr fun f hf => ?_; exact Zwd (fun h0 => by have := (hfam f hf).1.2.2.1.1; omega)

theorem Ztr {m : List FaD} (h : allP m) (hr : ∀ f ∈ m, rgF f) : Zar (txtT m) = .ok m := by
 obtain ⟨h1, h2⟩ := all_ln h hr; unfold Zar; rw [← h2]; exact go_to _ _ _ _ _ h1 (Nat.lt_succ_self _) (Zqt m [] h) (Ztq h)
theorem Zvt {m : List FaD} {t : Tx} (h : Zar t = .ok m) : allP m ∧ (∀ f ∈ m, rgF f) ∧ t = txtT m := by
 obtain ⟨ls, h1, h2, h3, h4⟩ := go_ok _ _ _ _ _ h; have hI := Zqr ls [] [] m Zpb h1 h3; rw [List.nil_append] at hI; obtain ⟨g1, g2, g3⟩ := Zxx hI h4; exact ⟨g1, g2, h2.trans g3⟩
end Go.Proofs.YtknnooannohflaaDoor.Prs

/- Layer 28: the reference's remarks, over plain texts. -/
import Derived.Test.YtknnooannohflaaDoorXrA1
import Derived.Test.YtknnooannohflaaDoorPaA1
namespace Go.Proofs.YtknnooannohflaaDoor.Met
open Go Go.Px Go.Proofs Cmp Go.Proofs.YtknnooannohflaaDoor.St Prs Trm Exp
set_option maxRecDepth 100000
set_option linter.unusedVariables false

def lnR : Except Nat LnD → List SV
 | .error b => [.agg [I 0, S eT, S eT, S eT, SL 2 [], I 0, I ((b : Int) + 1)]]
 | .ok l => if l.kd = 3 then [.agg [I 3, S l.sm.nm, S eT, S l.sm.nm, SL 2 (laR l.sm.ls), I l.sm.v, I 0]]
  else [.agg [I l.kd, S l.nm, S (if l.kd = 1 then l.hp else bA (wrdT l.of)), S eT, SL 2 [], I 0, I 0]]
def rmF (T : Tx) (k : Int) : Except Nat (Unit × Nat) → Except Nat LnD
 | .error b => .error b
 | .ok (_, b) => match pName T b with
  | .error c => .error c
  | .ok (nm, c) => match pNeed T [32] c with
   | .error d => .error d
   | .ok (_, d) => if k = 1 then (match pEsc false T d with
     | .error e => .error e
     | .ok (hp, _) => .ok ⟨1, bA nm, bA hp, 0, sm0⟩)
    else (match pKind T d with
     | .error e => .error e
     | .ok (w, e) => if e < T.length then .error e else .ok ⟨2, bA nm, bA [], w, sm0⟩)
theorem Zir (T : Tx) : ∀ (u v : Tx) (a : Nat), pNeed T (u ++ v) a = match pNeed T u a with | .error b => .error b | .ok (_, b) => pNeed T v b
 | [], v, a => rfl
 | c :: u, v, a => by
  rw [List.cons_append, pNeed, pNeed]
  split
  ·exact Zir T u v (a + 1)
  ·rfl
theorem Zey (T : Tx) : ∀ (u : Tx) (a : Nat), match pNeed T u a with | .error b => b < a + u.length | .ok (_, b) => b = a + u.length
 | [], a => rfl
 | c :: u, a => by
  rw [pNeed]; by_cases h : T[a]? = some c
  ·rw [if_pos h]; have := Zey T u (a + 1)
   cases hr : pNeed T u (a + 1) with
   | error b => rw [hr] at this; simp only [List.length_cons] at this ⊢; omega
   | ok p => rw [hr] at this; simp only [List.length_cons] at this ⊢; omega
  ·rw [if_neg h]; simp
theorem Zuk : ∀ (n : Nat) {l : Tx} {a b : Nat} {r : Tx}, l.length ≤ n → pEscL false l a = .ok (r, b) → b = a + l.length := by
 intro n
 induction n with
 | zero => intro l a b r hn h; have : l = [] := (by cases l with | nil => rfl | cons c l => simp at hn); subst this; rw [pEscL.eq_def] at h; simp only [Except.ok.injEq, Prod.mk.injEq] at h; simp [h.2]
 | succ n ih =>
  intro l a b r hn h
  have sub : ∀ (p : Tx) {l : Tx} {a' b : Nat} {r : Tx}, l.length ≤ n → eApp p (pEscL false l a') = .ok (r, b) → b = a' + l.length := by
   intro p l a' b r hl h
   cases q : pEscL false l a' with
   | error e => rw [q] at h; cases h
   | ok y => obtain ⟨r', e⟩ := y; rw [q] at h; simp only [eApp, Except.ok.injEq, Prod.mk.injEq] at h; rw [← h.2]; exact ih hl q
  match l with
  | [] => rw [pEscL.eq_def] at h; simp only [Except.ok.injEq, Prod.mk.injEq] at h; simp [h.2]
  | c :: l =>
   rw [pEscL.eq_def] at h; simp only [Bool.false_eq_true, false_and, if_false] at h; simp only [List.length_cons] at hn ⊢
   split at h
   ·match l with
    | [] => cases h
    | d :: l' =>
     simp only at h
     cases q : sgnB false d with
     | none => rw [q] at h; cases h
     | some y => rw [q] at h; have := sub _ (by simp only [List.length_cons] at hn; omega) h; simp only [List.length_cons]; omega
   ·have := sub _ (by omega) h; omega
theorem Zwq {T : Tx} {a b : Nat} {r : Tx} (ha : a ≤ T.length) (h : pEsc false T a = .ok (r, b)) : b = T.length := by
 have := Zuk _ (Nat.le_refl _) h; rw [List.length_drop] at this; omega
abbrev rmH : Tx := [35, 32, 72, 69, 76, 80, 32]
abbrev rmT : Tx := [35, 32, 84, 89, 80, 69, 32]
theorem Zl4 {T : Tx} : ∀ {u : Tx} {a b : Nat} {x : Unit}, a ≤ T.length → pNeed T u a = .ok (x, b) → b ≤ T.length
 | [], a, b, x, ha, h => by simp only [pNeed, Except.ok.injEq, Prod.mk.injEq] at h; omega
 | c :: u, a, b, x, ha, h => by
  rw [pNeed] at h
  split at h
  ·rename_i q; have := (List.getElem?_eq_some_iff.1 q).1; exact Zl4 (by omega) h
  ·cases h
theorem Zpr {T : Tx} {a b : Nat} {n : Tx} (h : pName T a = .ok (n, b)) : b ≤ T.length := by
 unfold pName at h
 cases hc : T[a]? with
 | none => rw [hc] at h; cases h
 | some c =>
  rw [hc] at h; simp only at h
  split at h
  ·simp only [Except.ok.injEq, Prod.mk.injEq] at h; obtain ⟨h1, rfl⟩ := h; have h2 := (List.getElem?_eq_some_iff.1 hc).1; have h3 : (Prs.nmAt T a).length ≤ (T.drop a).length := (by unfold Prs.nmAt; exact (List.takeWhile_sublist _).length_le); rw [List.length_drop] at h3; omega
  ·cases h

def isT (T : Tx) : Bool := match pNeed T rmH 0 with
 | .error b => b == 2 && T[2]? == some 84
 | .ok _ => false
theorem Zr8 (T : Tx) (h0 : T[0]? = some 35) : pRead T true = if isT T = true then rmF T 2 (pNeed T rmT 0) else rmF T 1 (pNeed T rmH 0) := by
 unfold pRead pLine isT; rw [h0]; simp only [if_true]; rw [show rmH = [35, 32] ++ Zdt from rfl, show rmT = [35, 32] ++ Zhp from rfl, Zir, Zir]; have hp := Zey T [35, 32] 0
 cases hr : pNeed T [35, 32] 0 with
 | error b => rw [hr] at hp; simp only [List.length_cons, List.length_nil] at hp; simp only; rw [if_neg (by simp; omega)]; rfl
 | ok p =>
  obtain ⟨u, b⟩ := p; rw [hr] at hp; simp only [List.length_cons, List.length_nil] at hp; have hb : b = 2 := (by omega); subst hb; have hle : 2 ≤ T.length := Zl4 (u := [35, 32]) (a := 0) (by omega) hr; simp only
  cases h2 : T[2]? with
  | none => have : pNeed T Zdt 2 = .error 2 := (by unfold Zdt; rw [pNeed, h2]; rfl); rw [this]; simp [rmF]
  | some y =>
   simp only; by_cases hy : y = 72
   ·subst hy; rw [if_pos rfl, if_neg (by cases pNeed T Zdt 2 <;> simp)]; unfold pHelp
    cases q1 : pNeed T Zdt 2 with
    | error b => rfl
    | ok p1 =>
     simp only [rmF]
     cases q2 : pName T p1.2 with
     | error b => rfl
     | ok p2 =>
      simp only
      cases q3 : pNeed T [32] p2.2 with
      | error b => rfl
      | ok p3 =>
       simp only [if_true]
       cases q4 : pEsc false T p3.2 with
       | error b => rfl
       | ok p4 => have := Zwq (Zl4 (Zpr q2) q3) q4; simp only [this]; rw [if_neg (by simp)]
   ·have e1 : pNeed T Zdt 2 = .error 2 := (by unfold Zdt; rw [pNeed, h2, if_neg (by simpa using hy)]); rw [if_neg hy, e1]; by_cases hy2 : y = 84
    ·subst hy2; rw [if_pos (by simp)]; unfold pType
     cases q1 : pNeed T Zhp 2 with
     | error b => rfl
     | ok p1 =>
      simp only [rmF]
      cases q2 : pName T p1.2 with
      | error b => rfl
      | ok p2 =>
       simp only
       cases q3 : pNeed T [32] p2.2 with
       | error b => rfl
       | ok p3 =>
        simp only; rw [if_neg (by decide)]
        cases q4 : pKind T p3.2 with
        | error b => rfl
        | ok p4 => simp
    ·rw [if_neg (by simpa using hy2)]; have : pNeed T Zhp 2 = .error 2 := by unfold Zhp; rw [pNeed, h2, if_neg (by simpa using hy2)]
     unfold pType; rw [this]; rfl


def labF (T nm : Tx) (L : List LaD) (n a : Nat) : Except Nat (SmD × Nat) := match pLabs T n a with
 | .error c => .error c
 | .ok (ls, c) => pTail T nm (L ++ ls) c
def samF (T nm : Tx) (L : List LaD) (n b : Nat) : Except Nat (SmD × Nat) := match T[b]? with
 | none => .error b
 | some x => if L = [] then (if x = 123 then labF T nm [] n (b + 1) else pTail T nm [] b)
  else if x = 44 then labF T nm L n (b + 1) else (match pNeed T [125] b with
   | .error e => .error e
   | .ok (_, e) => pTail T nm L e)
theorem Zra (T : Tx) : pSamp T 0 = match pName T 0 with
  | .error b => .error b
  | .ok (nm, b) => samF T nm [] (T.length + 1 - (b + 1)) b := by
 unfold pSamp samF labF
 cases pName T 0 with
 | error b => rfl
 | ok p =>
  obtain ⟨nm, b⟩ := p; simp only [if_true, List.nil_append]
  cases T[b]? with
  | none => rfl
  | some x => rfl
def goB (T : Tx) (L : List LaD) (b : Nat) : Bool := match T[b]? with
 | none => false
 | some x => if L = [] then x == 123 else x == 44
theorem Znf {T nm : Tx} {L : List LaD} {k b : Nat} (h : goB T L b = true) : samF T nm L (k + 1) b = match pLab T (b + 1) with
  | .error e => .error e
  | .ok (l, e) => samF T nm (L ++ [l]) k e := by
 have e1 : samF T nm L (k + 1) b = labF T nm L (k + 1) (b + 1) := by
  unfold samF; unfold goB at h
  cases hc : T[b]? with
  | none => rw [hc] at h; cases h
  | some x =>
   rw [hc] at h; simp only at h ⊢
   by_cases hL : L = []
   ·subst hL; have : x = 123 := (by simpa using h); rw [if_pos rfl, if_pos this]
   ·rw [if_neg hL] at h ⊢; have : x = 44 := (by simpa using h); rw [if_pos this]
 rw [e1]; unfold labF
 cases hl : pLab T (b + 1) with
 | error e => rw [Zoh hl]
 | ok p =>
  obtain ⟨l, e⟩ := p; simp only; have hne : ¬ (L ++ [l] = []) := (by simp); unfold samF
  cases hc : T[e]? with
  | none => rw [Zjn hl hc]
  | some x =>
   simp only; rw [if_neg hne]; by_cases hx : x = 44
   ·subst hx; rw [Zf1 hl hc, if_pos rfl]; unfold labF
    cases pLabs T k (e + 1) with
    | error c => rfl
    | ok p => simp [lApp]
   ·rw [Zf2 hl hc hx, if_neg hx]
    cases pNeed T [125] e with
    | error c => rfl
    | ok p => rfl
def endW (L : List LaD) : Tx := if L = [] then [32] else [125, 32]
def numF (T nm : Tx) (L : List LaD) : Except Nat (Unit × Nat) → Except Nat (SmD × Nat)
 | .error b => .error b
 | .ok (_, b) => match pNum T b with
  | .error c => .error c
  | .ok (v, c) => .ok (⟨bA nm, L, v⟩, c)
theorem Zps (T nm : Tx) (L : List LaD) (b : Nat) : pTail T nm L b = numF T nm L (pNeed T [32] b) := by
 unfold pTail numF
 cases pNeed T [32] b <;> rfl
theorem Zgy {T nm : Tx} {L : List LaD} {n b : Nat} (h : goB T L b = false) : samF T nm L n b = numF T nm L (pNeed T (endW L) b) := by
 unfold samF endW; unfold goB at h
 cases hc : T[b]? with
 | none =>
  by_cases hL : L = []
  ·have e : pNeed T [32] b = .error b := (by rw [pNeed, hc]; rfl); rw [if_pos hL, e]; rfl
  ·have e : pNeed T [125, 32] b = .error b := (by rw [pNeed, hc]; rfl); rw [if_neg hL, e]; rfl
 | some x =>
  rw [hc] at h; simp only at h ⊢
  by_cases hL : L = []
  ·subst hL; have : ¬ x = 123 := (by simpa using h); rw [if_pos rfl, if_neg this, if_pos rfl, Zps]
  ·rw [if_neg hL] at h ⊢; have : ¬ x = 44 := (by simpa using h); rw [if_neg this, if_neg hL, show ([125, 32] : Tx) = [125] ++ [32] from rfl, Zir]
   cases pNeed T [125] b with
   | error e => rfl
   | ok p => exact Zps _ _ _ _

theorem Zjf : ∀ (n : Nat) {l : Tx} {a b : Nat} {r : Tx}, l.length ≤ n → pEscL true l a = .ok (r, b) → a ≤ b ∧ (l[b - a]? = none ∨ l[b - a]? = some 34) := by
 intro n
 induction n with
 | zero => intro l a b r hn h; have : l = [] := (by cases l with | nil => rfl | cons c l => simp at hn); subst this; rw [pEscL.eq_def] at h; simp only [Except.ok.injEq, Prod.mk.injEq] at h; exact ⟨by omega, .inl rfl⟩
 | succ n ih =>
  intro l a b r hn h
  have sub : ∀ (p : Tx) {l : Tx} {a' b : Nat} {r : Tx}, l.length ≤ n → eApp p (pEscL true l a') = .ok (r, b) → a' ≤ b ∧ (l[b - a']? = none ∨ l[b - a']? = some 34) := by
   intro p l a' b r hl h
   cases q : pEscL true l a' with
   | error e => rw [q] at h; cases h
   | ok y => obtain ⟨r', e⟩ := y; rw [q] at h; simp only [eApp, Except.ok.injEq, Prod.mk.injEq] at h; rw [← h.2]; exact ih hl q
  match l with
  | [] => rw [pEscL.eq_def] at h; simp only [Except.ok.injEq, Prod.mk.injEq] at h; exact ⟨by omega, .inl rfl⟩
  | c :: l =>
   rw [pEscL.eq_def] at h; simp only [List.length_cons] at hn; simp only at h; by_cases hq : True ∧ c = 34
   ·rw [if_pos hq] at h; simp only [Except.ok.injEq, Prod.mk.injEq] at h; obtain ⟨_, rfl⟩ := h; refine ⟨Nat.le_refl _, .inr ?_⟩; rw [Nat.sub_self, hq.2]; rfl
   ·rw [if_neg hq] at h; by_cases h92 : c = 92
    ·rw [if_pos h92] at h
     match l with
     | [] => cases h
     | d :: l' =>
      simp only at h
      cases q : sgnB true d with
      | none => rw [q] at h; cases h
      | some y => rw [q] at h; obtain ⟨g1, g2⟩ := sub _ (by simp only [List.length_cons] at hn; omega) h; refine ⟨by omega, ?_⟩; rw [show b - a = b - (a + 2) + 1 + 1 by omega, List.getElem?_cons_succ, List.getElem?_cons_succ]; exact g2
    ·rw [if_neg h92] at h; obtain ⟨g1, g2⟩ := sub _ (by omega) h; refine ⟨by omega, ?_⟩; rw [show b - a = b - (a + 1) + 1 by omega, List.getElem?_cons_succ]; exact g2
theorem Zpt {T : Tx} {a b : Nat} {r : Tx} (h : pEsc true T a = .ok (r, b)) : T[b]? = none ∨ T[b]? = some 34 := by
 obtain ⟨h1, h2⟩ := Zjf _ (Nat.le_refl _) h; rw [List.getElem?_drop, show a + (b - a) = b by omega] at h2; exact h2


theorem brk_x {p : Nat} {t : ByteArray} {b : Bool} (hp : p ≤ 4000000000) {Q : List SV → Prop} (h : Q (lnR (.error p))) :
  Cl Tryd.prog 84 sP ([SV.agg [I (p : Int), S t, B b]]) (fun (rs : List SV) => ∃ x1 : Int, ∃ s2 : ByteArray, ∃ s3 : ByteArray, ∃ s4 : ByteArray, ∃ l : List (List SV), ∃ x2 : Int, ∃ x3 : Int, (rs = [SV.agg [I x1, S s2, S s3, S s4, SL 2 l, I x2, I x3]]) ∧ (Q ([SV.agg [I x1, S s2, S s3, S s4, SL 2 l, I x2, I x3]]))) :=
 Cl.of (R := lnR (.error p)) (Zrq _ _ _ _ (by rw [Za0 (by omega) (by omega)]; rfl)) ⟨_, _, _, _, _, _, _, rfl, h⟩
def samE (T : Tx) : Except Nat (SmD × Nat) → Except Nat LnD
 | .error c => .error c
 | .ok (x, c) => if c < T.length then .error c else .ok ⟨3, bA [], bA [], 0, x⟩
theorem Zul {T : Tx} (h : ¬ T[0]? = some 35) (h2 : ¬ T = []) : pRead T true = samE T (pSamp T 0) := by
 unfold pRead pLine
 cases hc : T[0]? with
 | none => exact absurd (by simpa using hc) h2
 | some x =>
  rw [hc] at h; simp only; rw [if_neg (by simpa using h)]
  cases pSamp T 0 with
  | error b => rfl
  | ok p => simp [samE]
theorem Zl5 {s : ByteArray} {a b : Nat} {n : Tx} (h : pName s.data.toList a = .ok (n, b)) : b ≤ s.size := Zpr h
theorem Zee {s : ByteArray} {w : Tx} {a b : Nat} {u : Unit} (ha : a ≤ s.size) (h : pNeed s.data.toList w a = .ok (u, b)) : b ≤ s.size := Zl4 (T := s.data.toList) ha h
theorem Zl6 {s : ByteArray} {a b : Nat} (h : pName s.data.toList a = .error b) : b = a := by
 unfold pName at h
 cases hc : s.data.toList[a]? with
 | none => rw [hc] at h; cases h; rfl
 | some c =>
  rw [hc] at h; simp only at h
  split at h <;> cases h
  rfl
theorem Zff {s : ByteArray} {w : Tx} {a b : Nat} (h : pNeed s.data.toList w a = .error b) : b ≤ a + w.length := by
 have := Zey s.data.toList w a; rw [h] at this; simp only at this; omega
theorem xe_esc : ∀ (n : Nat) {v : Bool} {l : Tx} {a b : Nat}, l.length ≤ n → pEscL v l a = .error b → b ≤ a + l.length := by
 intro n
 induction n with
 | zero =>
  intro v l a b hn h; have : l = [] := (by cases l with | nil => rfl | cons c l => simp at hn); subst this; rw [pEscL.eq_def] at h
  cases h
 | succ n ih =>
  intro v l a b hn h
  have sub : ∀ (p : Tx) {l : Tx} {a' b : Nat}, l.length ≤ n → eApp p (pEscL v l a') = .error b → b ≤ a' + l.length := by
   intro p l a' b hl h
   cases q : pEscL v l a' with
   | error e => rw [q] at h; cases h; exact ih hl q
   | ok y => rw [q] at h; cases h
  match l with
  | [] => rw [pEscL.eq_def] at h; cases h
  | c :: l =>
   rw [pEscL.eq_def] at h; simp only [List.length_cons] at hn ⊢; simp only at h
   split at h
   ·cases h
   ·split at h
    ·match l with
     | [] => cases h; omega
     | d :: l' =>
      simp only at h; simp only [List.length_cons] at hn ⊢
      cases q : sgnB v d with
      | none => rw [q] at h; cases h; omega
      | some y => rw [q] at h; have := sub _ (by omega) h; omega
    ·have := sub _ (by omega) h; omega
theorem Zn9 {s : ByteArray} {v : Bool} {a b : Nat} (ha : a ≤ s.size) (h : pEsc v s.data.toList a = .error b) : b ≤ s.size := by
 have := xe_esc _ (Nat.le_refl _) h; rw [List.length_drop, Array.length_toList] at this; have e : s.data.size = s.size := rfl; omega

end Go.Proofs.YtknnooannohflaaDoor.Met

/- Layer 15: what is right stays so. -/
import Derived.Test.YtohmeljljamigaaSt4
import Derived.Test.YtohmeljljamigaaStN2
namespace Go.Proofs.Ytohmeljljamigaa.St
open Go Go.Px Go.Proofs Go.Proofs.Ytohmeljljamigaa.Cmp
set_option maxRecDepth 100000
set_option linter.unusedVariables false

theorem ifB_dup {b : Bool} {X R : Prop} (r : R) (h : R → b = true → X) : ifB b X R := ifB_intro (fun hb => h r hb) (fun _ => r)

theorem new_P {nm : ByteArray} {ro a : Int} (h1 : namB nm = true) (h2 : 1 ≤ ro ∧ ro ≤ 3) (h3 : timP a) : (newC nm ro a).1.P := by
  unfold newC
  rw [if_neg (by simp [h1]), if_neg (by omega), if_neg (by simp [h3])]
  have z : heldP 0 := by decide
  have hh : hisP 0 0 0 0 0 0 0 0 0 0 := by decide
  have bk : bktP 10 10 := by decide
  by_cases h : ro = 1
  · rw [if_pos h]
    have ht := tim_div h3 (w := 10) (by omega)
    have hz : cellsP (zer 4) := cells_zer 4
    have hw : winP 10 (a / 10) (zer 4) := ⟨by decide, ht, by decide, hz⟩
    exact P1 h1 ⟨z, z, z⟩ h ⟨⟨(by decide : (0 : Int) ≤ 0 ∧ (0 : Int) ≤ 2), hw⟩, hh, rfl, rfl⟩
  · rw [if_neg h]
    by_cases h' : ro = 2
    · exact P2 h1 ⟨z, z, z⟩ h' ⟨⟨⟨rfl, rfl, rfl, rfl⟩, ⟨rfl, rfl, rfl, rfl, rfl, rfl, rfl, rfl, rfl⟩, rfl⟩, bk⟩
    · exact P3 h1 ⟨z, z, z⟩ (show ro = 3 by omega) ⟨⟨(by decide : (0 : Int) ≤ 0 ∧ (0 : Int) ≤ 2147483647), rfl, rfl, rfl⟩, hh, bk⟩

theorem nxt_P {d : StD} {e : EvD} (m : MayS d e) : (nxtS d e).P := by
  unfold nxtS
  by_cases hk : e.k = 1
  · rw [if_pos hk]
    obtain ⟨_, hn, hv, ht, _⟩ := chkE_zero m.chk
    have l1 : lo1 e.k = 1 := by simp [lo1, hk]
    have l2 : hi1 e.k = 3 := by simp [hi1, hk]
    exact new_P (by unfold namB; rw [decide_eq_true hn]) (by omega) ht
  · rw [if_neg hk]
    obtain ⟨i, hi, h1, h2, h3⟩ := m.old hk
    rw [h1, getD_at hi]
    exact tell_P (may_zero.1 h3)

theorem app_P {d : StD} {e : EvD} (h : (appS d e).2 = 0) : (appS d e).1.P ∧ (appS d e).1.q = d.q + 1 ∧ d.t ≤ (appS d e).1.t := by
  obtain ⟨hm, ea⟩ := app_zero h
  have m := mayS_zero hm
  obtain ⟨_, _, _, ht, hq⟩ := chkE_zero m.chk
  have hl := m.p.1.1
  rw [ea]
  refine ⟨⟨⟨?_, hq.1, hq.2, ht.1, ht.2⟩, fun c hc => ?_, srt_withB m.p.2.2⟩, m.sq, m.tm⟩
  · show (withB CoD.nm d.cs (nxtS d e)).length ≤ 12
    rw [nxt_len m]
    split
    · have := (m.new (by assumption)).2; omega
    · omega
  · rcases mem_withB.1 hc with rfl | ⟨hc, _⟩
    · exact nxt_P m
    · exact m.p.2.1 c hc

theorem fold_P : ∀ (l : List EvD) {d : StD}, d.P → (foldS d l).1.P ∧ (foldS d l).1.q = d.q + (foldS d l).2.1 ∧ d.t ≤ (foldS d l).1.t
  | [], d, h => ⟨h, by simp [foldS], Int.le_refl _⟩
  | e :: l, d, h => by
    rw [fold_cons]
    split
    · exact ⟨h, by simp, Int.le_refl _⟩
    · rename_i h0
      have h0 : (appS d e).2 = 0 := by simpa using h0
      obtain ⟨h1, h2, h3⟩ := app_P h0
      obtain ⟨g1, g2, g3⟩ := fold_P l h1
      refine ⟨g1, ?_, Int.le_trans h3 g3⟩
      dsimp only
      rw [g2, h2]; omega

theorem fold_len : ∀ (l : List EvD) (d : StD), (foldS d l).2.1 ≤ l.length
  | [], d => by simp [foldS]
  | e :: l, d => by
    rw [fold_cons]
    split
    · simp
    · have := fold_len l (appS d e).1
      simp; omega

theorem fold_err : ∀ (l : List EvD) {d : StD}, (foldS d l).2.2 ≠ 0 → ∃ h : (foldS d l).2.1 < l.length, mayS (foldS d l).1 l[(foldS d l).2.1] = (foldS d l).2.2
  | [], d, h => by simp [foldS] at h
  | e :: l, d, h => by
    by_cases h0 : (appS d e).2 = 0
    · have ef := fold_cons d e l
      rw [if_neg (by simp [h0])] at ef
      rw [ef] at h
      obtain ⟨h1, h2⟩ := fold_err l h
      rw [ef]
      exact ⟨by simpa using h1, by simpa using h2⟩
    · have ef := fold_cons d e l
      rw [if_pos h0] at ef
      rw [ef]
      exact ⟨by simp, by simpa using (app_code d e).symm⟩

theorem fold_app : ∀ (l m : List EvD) (d : StD), ((foldS d l).2.2 ≠ 0 → foldS d (l ++ m) = foldS d l) ∧
    ((foldS d l).2.2 = 0 → (foldS d l).2.1 = l.length ∧ foldS d (l ++ m) = ((foldS (foldS d l).1 m).1, l.length + (foldS (foldS d l).1 m).2.1, (foldS (foldS d l).1 m).2.2))
  | [], m, d => ⟨fun h => by simp [foldS] at h, fun _ => ⟨rfl, by simp [foldS]⟩⟩
  | e :: l, m, d => by
    have ef := fold_cons d e l
    have em := fold_cons d e (l ++ m)
    rw [List.cons_append]
    by_cases h0 : (appS d e).2 = 0
    · rw [if_neg (by simp [h0])] at ef em
      obtain ⟨h1, h2⟩ := fold_app l m (appS d e).1
      rw [ef, em]
      refine ⟨fun h => ?_, fun h => ?_⟩
      · rw [h1 h]
      · obtain ⟨g1, g2⟩ := h2 h
        rw [g2]
        refine ⟨by simp [g1], ?_⟩
        simp; omega
    · rw [if_pos h0] at ef em
      rw [ef, em]
      exact ⟨fun _ => rfl, fun h => absurd h h0⟩

end Go.Proofs.Ytohmeljljamigaa.St

namespace Go.Proofs.Ytohmeljljamigaa.Li
open Go Go.Px Go.Proofs Go.Proofs.Ytohmeljljamigaa.Cmp Go.Proofs.Ytohmeljljamigaa.St
set_option maxRecDepth 100000
set_option linter.unusedVariables false

deriving instance DecidableEq for EvD
structure LiD where
  ev : List EvD
  s : StD
  fr : Int
  sh : Bool
deriving DecidableEq
abbrev LiD.sv (l : LiD) : SV := .agg [SL 7 (eR l.ev), SL 21 (coR l.s.cs), I l.s.q, I l.s.t, I l.fr, B l.sh]

/-- The event at a place is right. -/
def evP (l : LiD) (i : Nat) (h : i < l.ev.length) : Prop := (chkE l.ev[i] = 0 ∧ l.ev[i].s = l.fr + 1 + i) ∧ (0 < i → (l.ev[i - 1]'(by omega)).a ≤ l.ev[i].a)
instance (l : LiD) (i : Nat) (h : i < l.ev.length) : Decidable (evP l i h) := inferInstanceAs (Decidable (_ ∧ _))
def LiD.P (l : LiD) : Prop := (l.s.P ∧ 0 ≤ l.fr ∧ l.fr ≤ l.s.q ∧ (l.ev.length : Int) = l.s.q - l.fr) ∧ (∀ i, ∀ h : i < l.ev.length, evP l i h) ∧ (∀ h : 0 < l.ev.length, (l.ev[l.ev.length - 1]'(by omega)).a = l.s.t)
instance (l : LiD) : Decidable l.P := inferInstanceAs (Decidable (_ ∧ _ ∧ _))

def numE (e : EvD) (q : Int) : EvD := { e with s := q + 1 }
def apL (l : LiD) (e : EvD) : LiD × Int :=
  if ¬ l.P then (l, 1) else if (appS l.s (numE e l.s.q)).2 ≠ 0 then (l, (appS l.s (numE e l.s.q)).2) else if l.sh = true then (l, 13)
  else (⟨l.ev ++ [numE e l.s.q], (appS l.s (numE e l.s.q)).1, l.fr, l.sh⟩, 0)
def drL (l : LiD) (n : Int) : LiD × Int :=
  if ¬ l.P ∨ l.s.q < n then (l, 1) else if l.fr < n then ({ l with ev := l.ev.drop (n - l.fr).toNat, fr := n }, 0) else (l, 0)
def behL (l : LiD) (n : Int) : List EvD := if ¬ l.P then [] else l.ev.filter fun e => decide (n < e.s)
def shutL (l : LiD) : LiD := { l with sh := true }
end Go.Proofs.Ytohmeljljamigaa.Li

namespace Go.Proofs.Ytohmeljljamigaa.Li
open Go Go.Px Go.Proofs Go.Proofs.Ytohmeljljamigaa.Cmp Go.Proofs.Ytohmeljljamigaa.St
set_option maxRecDepth 100000
set_option linter.unusedVariables false

abbrev li6 (ev rows : List (List SV)) (q t fr : Int) (sh : Bool) : SV := .agg [SL 7 ev, SL 21 rows, I q, I t, I fr, B sh]
def SgT : FuncId → Sig := (fun f => bif Nat.beq f 129 then ⟨[], [.own]⟩ else {})
def SvT : TypeId → Sig := fun _ => {}
theorem iclone_nf (ev : List (List SV)) (Q : List SV → Prop) (h : ∀ b : Bool, ((b = true) → rlen ev = 0) → ifB b (Q ([SL 7 []])) (((lsum (rlen []) (rlen ev)) ≤ ((2147483648 : Int))) ∧ (Q ([SL 7 (rapp [] ev)])))) : Ct Try.prog 129 ⟨[], [.own]⟩ [SL 7 ev] Q :=
  fn_of (f := 129) SgT SvT (fun _ => none) Try.f129 Try.func129 (by kernel_rfl) (by kernel_rfl) h

theorem iright_nf (ev rows : List (List SV)) (q t fr : Int) (sh : Bool) (Q : List SV → Prop) (h : Cl Try.prog 45 sP ([SV.agg [SL 21 rows, I q, I t]]) (fun (rs : List SV) => ∃ b : Bool, (rs = [B b]) ∧ (ifB (bpick (bpick (bnot b) true (ilt fr 0)) true (igt fr q)) (Q [B false]) (ifB (ine (rlen ev) (wsub IntKind.i64 q fr)) (Q [B false]) (∃ Inv : Bool → Int → Prop, ∃ m : Bool → Int → Nat, (Inv false 0) ∧ (∀ b1 : Bool, ∀ x : Int, (Inv b1 x) → ifB (ilt x (rlen ev)) ((((0 : Int) ≤ x) ∧ (x < (rlen ev))) ∧ (∃ x1 : Int, ∃ x2 : Int, ∃ x3 : Int, ∃ s : ByteArray, ∃ x4 : Int, ∃ x5 : Int, ∃ x6 : Int, (rget ev x = [I x1, I x2, I x3, S s, I x4, I x5, I x6]) ∧ (Cl Try.prog 117 sP ([SV.agg [I x1, I x2, I x3, S s, I x4, I x5, I x6]]) (fun (rs1 : List SV) => ∃ x7 : Int, (rs1 = [I x7]) ∧ (ifB (bpick (ine x7 0) true (ine x1 (wadd IntKind.i64 (wadd IntKind.i64 fr 1) x))) (Q [B false]) (ifB (igt x 0) ((((0 : Int) ≤ (wsub IntKind.i64 x 1)) ∧ ((wsub IntKind.i64 x 1) < (rlen ev))) ∧ (∃ x8 : Int, ∃ x9 : Int, ∃ x10 : Int, ∃ s1 : ByteArray, ∃ x11 : Int, ∃ x12 : Int, ∃ x13 : Int, (rget ev (wsub IntKind.i64 x 1) = [I x8, I x9, I x10, S s1, I x11, I x12, I x13]) ∧ (ifB (ilt x2 x9) (Q [B false]) ((Option.some ([[SL 7 ev, SL 21 rows, I q, I t, I fr, B sh]]) = Option.some ([[SL 7 ev, SL 21 rows, I q, I t, I fr, B sh]])) ∧ ((Inv b1 (wadd IntKind.i64 x 1)) ∧ (Nat.le (Nat.succ (m b1 (wadd IntKind.i64 x 1))) (m b1 x))))))) ((Option.some ([[SL 7 ev, SL 21 rows, I q, I t, I fr, B sh]]) = Option.some ([[SL 7 ev, SL 21 rows, I q, I t, I fr, B sh]])) ∧ ((Inv b1 (wadd IntKind.i64 x 1)) ∧ (Nat.le (Nat.succ (m b1 (wadd IntKind.i64 x 1))) (m b1 x)))))))))) (ifB (ieq (rlen ev) 0) (Q [B true]) ((((0 : Int) ≤ (wsub IntKind.i64 (rlen ev) 1)) ∧ ((wsub IntKind.i64 (rlen ev) 1) < (rlen ev))) ∧ (∃ x1 : Int, ∃ x2 : Int, ∃ x3 : Int, ∃ s : ByteArray, ∃ x4 : Int, ∃ x5 : Int, ∃ x6 : Int, (rget ev (wsub IntKind.i64 (rlen ev) 1) = [I x1, I x2, I x3, S s, I x4, I x5, I x6]) ∧ (Q [B (ieq x2 t)])))))))))) : Ct Try.prog 63 {} [li6 ev rows q t fr sh] Q :=
  fn_of (f := 63) SgT SvT (fun _ => none) Try.f63 Try.func63 (by kernel_rfl) (by kernel_rfl) h

theorem irright_nf (ev rows : List (List SV)) (q t fr : Int) (sh : Bool) (Q : List SV → Prop) (h : Cl Try.prog 46 sP ([SV.agg [SL 21 rows, I q, I t]]) (fun (rs : List SV) => ∃ b : Bool, (rs = [B b]) ∧ (ifB (bpick (bpick (bnot b) true (ilt fr 0)) true (ine (wadd IntKind.i64 fr (rlen ev)) q)) (Q [B false]) (∃ Inv : Bool → Int → Prop, ∃ m : Bool → Int → Nat, (Inv false 0) ∧ (∀ b1 : Bool, ∀ x : Int, (Inv b1 x) → ifB (ilt x (rlen ev)) ((((0 : Int) ≤ x) ∧ (x < (rlen ev))) ∧ (∃ x1 : Int, ∃ x2 : Int, ∃ x3 : Int, ∃ s : ByteArray, ∃ x4 : Int, ∃ x5 : Int, ∃ x6 : Int, (rget ev x = [I x1, I x2, I x3, S s, I x4, I x5, I x6]) ∧ (Cl Try.prog 130 sP ([SV.agg [I x1, I x2, I x3, S s, I x4, I x5, I x6]]) (fun (rs1 : List SV) => ∃ x7 : Int, (rs1 = [I x7]) ∧ (ifB (bpick (ine x7 0) true (ine x1 (wadd IntKind.i64 fr (wadd IntKind.i64 x 1)))) (Q [B false]) (ifB (igt x 0) ((((0 : Int) ≤ (wsub IntKind.i64 x 1)) ∧ ((wsub IntKind.i64 x 1) < (rlen ev))) ∧ (∃ x8 : Int, ∃ x9 : Int, ∃ x10 : Int, ∃ s1 : ByteArray, ∃ x11 : Int, ∃ x12 : Int, ∃ x13 : Int, (rget ev (wsub IntKind.i64 x 1) = [I x8, I x9, I x10, S s1, I x11, I x12, I x13]) ∧ (ifB (bpick (ilt x2 x9) true (bpick (ieq (wadd IntKind.i64 x 1) (rlen ev)) (ine x2 t) false)) (Q [B false]) ((Option.some ([[SL 7 ev, SL 21 rows, I q, I t, I fr, B sh]]) = Option.some ([[SL 7 ev, SL 21 rows, I q, I t, I fr, B sh]])) ∧ ((Inv b1 (wadd IntKind.i64 x 1)) ∧ (Nat.le (Nat.succ (m b1 (wadd IntKind.i64 x 1))) (m b1 x))))))) (ifB (bpick (ieq (wadd IntKind.i64 x 1) (rlen ev)) (ine x2 t) false) (Q [B false]) ((Option.some ([[SL 7 ev, SL 21 rows, I q, I t, I fr, B sh]]) = Option.some ([[SL 7 ev, SL 21 rows, I q, I t, I fr, B sh]])) ∧ ((Inv b1 (wadd IntKind.i64 x 1)) ∧ (Nat.le (Nat.succ (m b1 (wadd IntKind.i64 x 1))) (m b1 x))))))))))) (Q [B true])))))) : Ct Try.prog 64 {} [li6 ev rows q t fr sh] Q :=
  fn_of (f := 64) SgT SvT (fun _ => none) Try.f64 Try.func64 (by kernel_rfl) (by kernel_rfl) h

theorem iappend_nf (ev rows : List (List SV)) (q t fr : Int) (sh : Bool) (s a k : Int) (c : ByteArray) (x y z : Int) (Q : List SV → Prop) (h : Cl Try.prog 63 sP ([SV.agg [SL 7 ev, SL 21 rows, I q, I t, I fr, B sh]]) (fun (rs : List SV) => ∃ b : Bool, (rs = [B b]) ∧ (ifB (bnot b) (Q ([SV.agg [SL 7 ev, SL 21 rows, I q, I t, I fr, B sh], I 1])) (Cl Try.prog 51 sP ([SV.agg [SL 21 rows, I q, I t], SV.agg [I (wadd IntKind.i64 q 1), I a, I k, S c, I x, I y, I z]]) (fun (rs1 : List SV) => ∃ l : List (List SV), ∃ x1 : Int, ∃ x2 : Int, ∃ x3 : Int, (rs1 = [SV.agg [SL 21 l, I x1, I x2], I x3]) ∧ (ifB (ine x3 0) (Q ([SV.agg [SL 7 ev, SL 21 rows, I q, I t, I fr, B sh], I x3])) (ifB sh (Q ([SV.agg [SL 7 ev, SL 21 rows, I q, I t, I fr, B sh], I 13])) ((Cl Try.prog 129 sO [SL 7 ev] (fun (rs2 : List SV) => ∃ l1 : List (List SV), (rs2 = [SL 7 l1]) ∧ (((lsum (rlen l1) (rlen ([[I (wadd IntKind.i64 q 1), I a, I k, S c, I x, I y, I z]]))) ≤ ((2147483648 : Int))) ∧ (Q ([SV.agg ([SL 7 (rapp l1 ([[I (wadd IntKind.i64 q 1), I a, I k, S c, I x, I y, I z]])), SL 21 l, I x1, I x2, I fr, B sh]), I 0]))))) ∧ (Cl Try.prog 129 sO [SL 7 ev] (fun (rs2 : List SV) => ∃ l1 : List (List SV), (rs2 = [SL 7 l1]) ∧ (((lsum (rlen l1) (rlen ([[I (wadd IntKind.i64 q 1), I a, I k, S c, I x, I y, I z]]))) ≤ ((2147483648 : Int))) ∧ (Q ([SV.agg ([SL 7 (rapp l1 ([[I (wadd IntKind.i64 q 1), I a, I k, S c, I x, I y, I z]])), SL 21 l, I x1, I x2, I fr, B sh]), I 0]))))))))))))) : Ct Try.prog 61 {} [li6 ev rows q t fr sh, ev7 s a k c x y z] Q :=
  fn_of (f := 61) SgT SvT (fun _ => none) Try.f61 Try.func61 (by kernel_rfl) (by kernel_rfl) h

theorem irappend_nf (ev rows : List (List SV)) (q t fr : Int) (sh : Bool) (s a k : Int) (c : ByteArray) (x y z : Int) (Q : List SV → Prop) (h : Cl Try.prog 64 sP ([SV.agg [SL 7 ev, SL 21 rows, I q, I t, I fr, B sh]]) (fun (rs : List SV) => ∃ b : Bool, (rs = [B b]) ∧ (ifB (bnot b) (Q ([SV.agg [SL 7 ev, SL 21 rows, I q, I t, I fr, B sh], I 1])) (Cl Try.prog 52 sP ([SV.agg [SL 21 rows, I q, I t], SV.agg [I (wadd IntKind.i64 q 1), I a, I k, S c, I x, I y, I z]]) (fun (rs1 : List SV) => ∃ l : List (List SV), ∃ x1 : Int, ∃ x2 : Int, ∃ x3 : Int, (rs1 = [SV.agg [SL 21 l, I x1, I x2], I x3]) ∧ (ifB (ine x3 0) (Q ([SV.agg [SL 7 ev, SL 21 rows, I q, I t, I fr, B sh], I x3])) (ifB sh (Q ([SV.agg [SL 7 ev, SL 21 rows, I q, I t, I fr, B sh], I 13])) (((((lsum (rlen []) (rlen ev)) ≤ ((2147483648 : Int))) ∧ (((lsum (rlen (rapp [] ev)) (rlen ([[I (wadd IntKind.i64 q 1), I a, I k, S c, I x, I y, I z]]))) ≤ ((2147483648 : Int))) ∧ (Q ([SV.agg ([SL 7 (rapp (rapp [] ev) ([[I (wadd IntKind.i64 q 1), I a, I k, S c, I x, I y, I z]])), SL 21 l, I x1, I x2, I fr, B false]), I 0])))) ∧ (((lsum (rlen []) (rlen ev)) ≤ ((2147483648 : Int))) ∧ (((lsum (rlen (rapp [] ev)) (rlen ([[I (wadd IntKind.i64 q 1), I a, I k, S c, I x, I y, I z]]))) ≤ ((2147483648 : Int))) ∧ (Q ([SV.agg ([SL 7 (rapp (rapp [] ev) ([[I (wadd IntKind.i64 q 1), I a, I k, S c, I x, I y, I z]])), SL 21 l, I x1, I x2, I fr, B false]), I 0]))))) ∧ (((lsum (rlen []) (rlen ev)) ≤ ((2147483648 : Int))) ∧ (((lsum (rlen (rapp [] ev)) (rlen ([[I (wadd IntKind.i64 q 1), I a, I k, S c, I x, I y, I z]]))) ≤ ((2147483648 : Int))) ∧ (Q ([SV.agg ([SL 7 (rapp (rapp [] ev) ([[I (wadd IntKind.i64 q 1), I a, I k, S c, I x, I y, I z]])), SL 21 l, I x1, I x2, I fr, B false]), I 0])))))))))))) : Ct Try.prog 62 {} [li6 ev rows q t fr sh, ev7 s a k c x y z] Q :=
  fn_of (f := 62) SgT SvT (fun _ => none) Try.f62 Try.func62 (by kernel_rfl) (by kernel_rfl) h

theorem ishut_nf (ev rows : List (List SV)) (q t fr : Int) (sh : Bool) (Q : List SV → Prop) (h : Q ([SV.agg [SL 7 ev, SL 21 rows, I q, I t, I fr, B true]])) : Ct Try.prog 68 {} [li6 ev rows q t fr sh] Q :=
  fn_of (f := 68) SgT SvT (fun _ => none) Try.f68 Try.func68 (by kernel_rfl) (by kernel_rfl) h

theorem idrop_nf (ev rows : List (List SV)) (q t fr : Int) (sh : Bool) (n : Int) (Q : List SV → Prop) (h : Cl Try.prog 63 sP ([SV.agg [SL 7 ev, SL 21 rows, I q, I t, I fr, B sh]]) (fun (rs : List SV) => ∃ b : Bool, (rs = [B b]) ∧ (ifB (bpick (bnot b) true (igt n q)) (Q ([SV.agg [SL 7 ev, SL 21 rows, I q, I t, I fr, B sh], I 1])) (ifB (igt n fr) ((((0 : Int) ≤ (wsub IntKind.i64 n fr)) ∧ (((wsub IntKind.i64 n fr) ≤ (rlen ev)) ∧ ((rlen ev) ≤ (rlen ev)))) ∧ (Cl Try.prog 129 sO [SL 7 (rsub ev (wsub IntKind.i64 n fr) (rlen ev))] (fun (rs1 : List SV) => ∃ l : List (List SV), (rs1 = [SL 7 l]) ∧ (Q ([SV.agg [SL 7 l, SL 21 rows, I q, I t, I n, B sh], I 0]))))) (Q ([SV.agg [SL 7 ev, SL 21 rows, I q, I t, I fr, B sh], I 0])))))) : Ct Try.prog 66 {} [li6 ev rows q t fr sh, I n] Q :=
  fn_of (f := 66) SgT SvT (fun _ => none) Try.f66 Try.func66 (by kernel_rfl) (by kernel_rfl) h

theorem irdrop_nf (ev rows : List (List SV)) (q t fr : Int) (sh : Bool) (n : Int) (Q : List SV → Prop) (h : Cl Try.prog 64 sP ([SV.agg [SL 7 ev, SL 21 rows, I q, I t, I fr, B sh]]) (fun (rs : List SV) => ∃ b : Bool, (rs = [B b]) ∧ (ifB (bpick (bnot b) true (igt n q)) (Q ([SV.agg [SL 7 ev, SL 21 rows, I q, I t, I fr, B sh], I 1])) (ifB (ile n fr) (Q ([SV.agg [SL 7 ev, SL 21 rows, I q, I t, I fr, B sh], I 0])) (Cl Try.prog 71 sP ([SV.agg [SL 7 ev, SL 21 rows, I q, I t, I fr, B sh], I n]) (fun (rs1 : List SV) => ∃ l : List (List SV), (rs1 = [SL 7 l]) ∧ (Q ([SV.agg [SL 7 l, SL 21 rows, I q, I t, I n, B sh], I 0])))))))) : Ct Try.prog 67 {} [li6 ev rows q t fr sh, I n] Q :=
  fn_of (f := 67) SgT SvT (fun _ => none) Try.f67 Try.func67 (by kernel_rfl) (by kernel_rfl) h

theorem ibehind_nf (ev rows : List (List SV)) (q t fr : Int) (sh : Bool) (n : Int) (Q : List SV → Prop) (h : Cl Try.prog 63 sP ([SV.agg [SL 7 ev, SL 21 rows, I q, I t, I fr, B sh]]) (fun (rs : List SV) => ∃ b : Bool, (rs = [B b]) ∧ (ifB (bnot b) (Q ([SL 7 []])) (∃ Inv : (List (List SV)) → Int → Prop, ∃ m : (List (List SV)) → Int → Nat, (Inv [] 0) ∧ (∀ l : List (List SV), ∀ x : Int, (Inv l x) → ifB (ilt x (rlen ev)) ((((0 : Int) ≤ x) ∧ (x < (rlen ev))) ∧ (∃ x1 : Int, ∃ x2 : Int, ∃ x3 : Int, ∃ s : ByteArray, ∃ x4 : Int, ∃ x5 : Int, ∃ x6 : Int, (rget ev x = [I x1, I x2, I x3, S s, I x4, I x5, I x6]) ∧ (ifB (igt x1 n) (((lsum (rlen l) (rlen ([[I x1, I x2, I x3, S s, I x4, I x5, I x6]]))) ≤ ((2147483648 : Int))) ∧ ((Option.some ([[SL 7 ev, SL 21 rows, I q, I t, I fr, B sh]]) = Option.some ([[SL 7 ev, SL 21 rows, I q, I t, I fr, B sh]])) ∧ ((Inv (rapp l ([[I x1, I x2, I x3, S s, I x4, I x5, I x6]])) (wadd IntKind.i64 x 1)) ∧ (Nat.le (Nat.succ (m (rapp l ([[I x1, I x2, I x3, S s, I x4, I x5, I x6]])) (wadd IntKind.i64 x 1))) (m l x))))) ((Option.some ([[SL 7 ev, SL 21 rows, I q, I t, I fr, B sh]]) = Option.some ([[SL 7 ev, SL 21 rows, I q, I t, I fr, B sh]])) ∧ ((Inv l (wadd IntKind.i64 x 1)) ∧ (Nat.le (Nat.succ (m l (wadd IntKind.i64 x 1))) (m l x))))))) (Q [SL 7 l])))))) : Ct Try.prog 70 {} [li6 ev rows q t fr sh, I n] Q :=
  fn_of (f := 70) SgT SvT (fun _ => none) Try.f70 Try.func70 (by kernel_rfl) (by kernel_rfl) h

theorem irbehind_nf (ev rows : List (List SV)) (q t fr : Int) (sh : Bool) (n : Int) (Q : List SV → Prop) (h : ∃ Inv : (List (List SV)) → Int → Prop, ∃ m : (List (List SV)) → Int → Nat, (Inv [] 0) ∧ (∀ l : List (List SV), ∀ x : Int, (Inv l x) → ifB (ilt x (rlen ev)) (Cl Try.prog 64 sP ([SV.agg [SL 7 ev, SL 21 rows, I q, I t, I fr, B sh]]) (fun (rs : List SV) => ∃ b : Bool, (rs = [B b]) ∧ (ifB b ((((0 : Int) ≤ x) ∧ (x < (rlen ev))) ∧ (∃ x1 : Int, ∃ x2 : Int, ∃ x3 : Int, ∃ s : ByteArray, ∃ x4 : Int, ∃ x5 : Int, ∃ x6 : Int, (rget ev x = [I x1, I x2, I x3, S s, I x4, I x5, I x6]) ∧ (ifB (igt x1 n) ((((0 : Int) ≤ x) ∧ (x < (rlen ev))) ∧ (∃ x7 : Int, ∃ x8 : Int, ∃ x9 : Int, ∃ s1 : ByteArray, ∃ x10 : Int, ∃ x11 : Int, ∃ x12 : Int, (rget ev x = [I x7, I x8, I x9, S s1, I x10, I x11, I x12]) ∧ (((lsum (rlen l) (rlen ([[I x7, I x8, I x9, S s1, I x10, I x11, I x12]]))) ≤ ((2147483648 : Int))) ∧ ((Option.some ([[SL 7 ev, SL 21 rows, I q, I t, I fr, B sh]]) = Option.some ([[SL 7 ev, SL 21 rows, I q, I t, I fr, B sh]])) ∧ ((Inv (rapp l ([[I x7, I x8, I x9, S s1, I x10, I x11, I x12]])) (wadd IntKind.i64 x 1)) ∧ (Nat.le (Nat.succ (m (rapp l ([[I x7, I x8, I x9, S s1, I x10, I x11, I x12]])) (wadd IntKind.i64 x 1))) (m l x))))))) ((Option.some ([[SL 7 ev, SL 21 rows, I q, I t, I fr, B sh]]) = Option.some ([[SL 7 ev, SL 21 rows, I q, I t, I fr, B sh]])) ∧ ((Inv l (wadd IntKind.i64 x 1)) ∧ (Nat.le (Nat.succ (m l (wadd IntKind.i64 x 1))) (m l x))))))) (Q [SL 7 l])))) (Q [SL 7 l]))) : Ct Try.prog 71 {} [li6 ev rows q t fr sh, I n] Q :=
  fn_of (f := 71) SgT SvT (fun _ => none) Try.f71 Try.func71 (by kernel_rfl) (by kernel_rfl) h

theorem irsame_nf (ev rows : List (List SV)) (q t fr : Int) (sh : Bool) (ev2 rows2 : List (List SV)) (q2 t2 fr2 : Int) (sh2 : Bool) (Q : List SV → Prop) (h : ifB (bpick (ieq fr fr2) (beqB sh sh2) false) (Cl Try.prog 69 sP [SL 7 ev, SL 7 ev2] (fun (rs : List SV) => ∃ b : Bool, (rs = [B b]) ∧ (ifB b (Cl Try.prog 50 sP ([SV.agg [SL 21 rows, I q, I t], SV.agg [SL 21 rows2, I q2, I t2]]) (fun (rs1 : List SV) => ∃ b1 : Bool, (rs1 = [B b1]) ∧ (Q [B b1]))) (Q [B false])))) (Q [B false])) : Ct Try.prog 65 {} [li6 ev rows q t fr sh, li6 ev2 rows2 q2 t2 fr2 sh2] Q :=
  fn_of (f := 65) SgT SvT (fun _ => none) Try.f65 Try.func65 (by kernel_rfl) (by kernel_rfl) h

theorem irshort_nf (ev rows : List (List SV)) (q t fr : Int) (sh : Bool) (Q : List SV → Prop) (h : ifB (ile (rlen ev) 300) (Cl Try.prog 44 sP [SL 7 ev] (fun (rs : List SV) => ∃ b : Bool, (rs = [B b]) ∧ (ifB b (Cl Try.prog 43 sP ([SV.agg [SL 21 rows, I q, I t]]) (fun (rs1 : List SV) => ∃ b1 : Bool, (rs1 = [B b1]) ∧ (Q [B b1]))) (Q [B false])))) (Q [B false])) : Ct Try.prog 60 {} [li6 ev rows q t fr sh] Q :=
  fn_of (f := 60) SgT SvT (fun _ => none) Try.f60 Try.func60 (by kernel_rfl) (by kernel_rfl) h

theorem esame_nf (ev ev2 : List (List SV)) (Q : List SV → Prop) (h : ifB (ine (rlen ev) (rlen ev2)) (Q [B false]) (∃ Inv : Bool → Int → Prop, ∃ m : Bool → Int → Nat, (Inv false 0) ∧ (∀ b : Bool, ∀ x : Int, (Inv b x) → ifB (ilt x (rlen ev)) ((((0 : Int) ≤ x) ∧ (x < (rlen ev))) ∧ (∃ x1 : Int, ∃ x2 : Int, ∃ x3 : Int, ∃ s : ByteArray, ∃ x4 : Int, ∃ x5 : Int, ∃ x6 : Int, (rget ev x = [I x1, I x2, I x3, S s, I x4, I x5, I x6]) ∧ ((((0 : Int) ≤ x) ∧ (x < (rlen ev2))) ∧ (∃ x7 : Int, ∃ x8 : Int, ∃ x9 : Int, ∃ s1 : ByteArray, ∃ x10 : Int, ∃ x11 : Int, ∃ x12 : Int, (rget ev2 x = [I x7, I x8, I x9, S s1, I x10, I x11, I x12]) ∧ (ifB (bnot (band (ieq x1 x7) (band (ieq x2 x8) (band (ieq x3 x9) (band (seq s s1) (band (ieq x4 x10) (band (ieq x5 x11) (band (ieq x6 x12) true)))))))) (Q [B false]) (((Option.some [] : Option (List (List SV))) = Option.some []) ∧ ((Inv b (wadd IntKind.i64 x 1)) ∧ (Nat.le (Nat.succ (m b (wadd IntKind.i64 x 1))) (m b x))))))))) (Q [B true])))) : Ct Try.prog 69 {} [SL 7 ev, SL 7 ev2] Q :=
  fn_of (f := 69) SgT SvT (fun _ => none) Try.f69 Try.func69 (by kernel_rfl) (by kernel_rfl) h

theorem iawake_nf  (Q : List SV → Prop) (h : Cl Try.prog 61 sP ([SV.agg ([SL 7 [], SL 21 [], I ((0 : Int)), I ((0 : Int)), I ((0 : Int)), B false]), SV.agg ([I ((0 : Int)), I 3, I 1, S (ByteArray.mk (Array.mk [98])), I 1, I ((0 : Int)), I ((0 : Int))])]) (fun (rs : List SV) => ∃ l : List (List SV), ∃ l1 : List (List SV), ∃ x : Int, ∃ x1 : Int, ∃ x2 : Int, ∃ b : Bool, ∃ x3 : Int, (rs = [SV.agg [SL 7 l, SL 21 l1, I x, I x1, I x2, B b], I x3]) ∧ (Cl Try.prog 61 sP ([SV.agg [SL 7 l, SL 21 l1, I x, I x1, I x2, B b], SV.agg ([I ((0 : Int)), I 4, I 4, S (ByteArray.mk (Array.mk [98])), I 1, I ((0 : Int)), I ((0 : Int))])]) (fun (rs1 : List SV) => ∃ l2 : List (List SV), ∃ l3 : List (List SV), ∃ x4 : Int, ∃ x5 : Int, ∃ x6 : Int, ∃ b1 : Bool, ∃ x7 : Int, (rs1 = [SV.agg [SL 7 l2, SL 21 l3, I x4, I x5, I x6, B b1], I x7]) ∧ (Cl Try.prog 66 sP ([SV.agg [SL 7 l2, SL 21 l3, I x4, I x5, I x6, B b1], I 1]) (fun (rs2 : List SV) => ∃ l4 : List (List SV), ∃ l5 : List (List SV), ∃ x8 : Int, ∃ x9 : Int, ∃ x10 : Int, ∃ b2 : Bool, ∃ x11 : Int, (rs2 = [SV.agg [SL 7 l4, SL 21 l5, I x8, I x9, I x10, B b2], I x11]) ∧ (Cl Try.prog 68 sP ([SV.agg [SL 7 l2, SL 21 l3, I x4, I x5, I x6, B b1]]) (fun (rs3 : List SV) => ∃ l6 : List (List SV), ∃ l7 : List (List SV), ∃ x12 : Int, ∃ x13 : Int, ∃ x14 : Int, ∃ b3 : Bool, (rs3 = [SV.agg [SL 7 l6, SL 21 l7, I x12, I x13, I x14, B b3]]) ∧ (Cl Try.prog 61 sP ([SV.agg [SL 7 l6, SL 21 l7, I x12, I x13, I x14, B b3], SV.agg ([I ((0 : Int)), I 4, I 4, S (ByteArray.mk (Array.mk [98])), I ((0 : Int)), I ((0 : Int)), I ((0 : Int))])]) (fun (rs4 : List SV) => ∃ l8 : List (List SV), ∃ l9 : List (List SV), ∃ x15 : Int, ∃ x16 : Int, ∃ x17 : Int, ∃ b4 : Bool, ∃ x18 : Int, (rs4 = [SV.agg [SL 7 l8, SL 21 l9, I x15, I x16, I x17, B b4], I x18]) ∧ (Cl Try.prog 70 sP ([SV.agg [SL 7 l4, SL 21 l5, I x8, I x9, I x10, B b2], I 0]) (fun (rs5 : List SV) => ∃ l10 : List (List SV), (rs5 = [SL 7 l10]) ∧ (ifB (bpick (bpick (bpick (bpick (ieq x3 0) (ieq x7 0) false) (ieq x11 0) false) (ieq x18 13) false) (ieq (rlen l2) 2) false) ((((0 : Int) ≤ 1) ∧ (1 < (rlen l2))) ∧ (∃ x19 : Int, ∃ x20 : Int, ∃ x21 : Int, ∃ s : ByteArray, ∃ x22 : Int, ∃ x23 : Int, ∃ x24 : Int, (rget l2 1 = [I x19, I x20, I x21, S s, I x22, I x23, I x24]) ∧ (ifB (bpick (bpick (ieq x19 2) (ieq x10 1) false) (ieq (rlen l10) 1) false) ((((0 : Int) ≤ 0) ∧ (0 < (rlen l10))) ∧ (∃ x25 : Int, ∃ x26 : Int, ∃ x27 : Int, ∃ s1 : ByteArray, ∃ x28 : Int, ∃ x29 : Int, ∃ x30 : Int, (rget l10 0 = [I x25, I x26, I x27, S s1, I x28, I x29, I x30]) ∧ (ifB (ieq x28 1) (Cl Try.prog 63 sP ([SV.agg [SL 7 l4, SL 21 l5, I x8, I x9, I x10, B b2]]) (fun (rs6 : List SV) => ∃ b5 : Bool, (rs6 = [B b5]) ∧ (Q [B b5]))) (Q [B false])))) (Q [B false])))) (Q [B false])))))))))))))) : Ct Try.prog 59 {} ([] : List SV) Q :=
  fn_of (f := 59) SgT SvT (fun _ => none) Try.f59 Try.func59 (by kernel_rfl) (by kernel_rfl) h

end Go.Proofs.Ytohmeljljamigaa.Li

namespace Go.Proofs.Ytohmeljljamigaa.Li
open Go Go.Px Go.Proofs Go.Proofs.Ytohmeljljamigaa.Cmp Go.Proofs.Ytohmeljljamigaa.St
set_option maxRecDepth 100000
set_option linter.unusedVariables false

theorem law10_nf (ev rows : List (List SV)) (q t fr : Int) (sh : Bool) (s a k : Int) (c : ByteArray) (x y z : Int) (n : Int) (Q : List SV → Prop) (h : Cl Try.prog 59 sP [] (fun (rs : List SV) => ∃ b : Bool, (rs = [B b]) ∧ (ifB (bnot b) (Q [B false]) (Cl Try.prog 60 sP ([SV.agg [SL 7 ev, SL 21 rows, I q, I t, I fr, B sh]]) (fun (rs1 : List SV) => ∃ b1 : Bool, (rs1 = [B b1]) ∧ (ifB (bpick (bnot b1) true (igt (slen c) 100)) (Q [B true]) (Cl Try.prog 61 sP ([SV.agg [SL 7 ev, SL 21 rows, I q, I t, I fr, B sh], SV.agg [I s, I a, I k, S c, I x, I y, I z]]) (fun (rs2 : List SV) => ∃ l : List (List SV), ∃ l1 : List (List SV), ∃ x1 : Int, ∃ x2 : Int, ∃ x3 : Int, ∃ b2 : Bool, ∃ x4 : Int, (rs2 = [SV.agg [SL 7 l, SL 21 l1, I x1, I x2, I x3, B b2], I x4]) ∧ (Cl Try.prog 62 sP ([SV.agg [SL 7 ev, SL 21 rows, I q, I t, I fr, B sh], SV.agg [I s, I a, I k, S c, I x, I y, I z]]) (fun (rs3 : List SV) => ∃ l2 : List (List SV), ∃ l3 : List (List SV), ∃ x5 : Int, ∃ x6 : Int, ∃ x7 : Int, ∃ b3 : Bool, ∃ x8 : Int, (rs3 = [SV.agg [SL 7 l2, SL 21 l3, I x5, I x6, I x7, B b3], I x8]) ∧ (Cl Try.prog 63 sP ([SV.agg [SL 7 ev, SL 21 rows, I q, I t, I fr, B sh]]) (fun (rs4 : List SV) => ∃ b4 : Bool, (rs4 = [B b4]) ∧ (Cl Try.prog 64 sP ([SV.agg [SL 7 ev, SL 21 rows, I q, I t, I fr, B sh]]) (fun (rs5 : List SV) => ∃ b5 : Bool, (rs5 = [B b5]) ∧ (ifB (bpick (bnot (beqB b4 b5)) true (ine x4 x8)) (Q [B false]) (Cl Try.prog 65 sP ([SV.agg [SL 7 l, SL 21 l1, I x1, I x2, I x3, B b2], SV.agg [SL 7 l2, SL 21 l3, I x5, I x6, I x7, B b3]]) (fun (rs6 : List SV) => ∃ b6 : Bool, (rs6 = [B b6]) ∧ (ifB (bnot b6) (Q [B false]) (Cl Try.prog 66 sP ([SV.agg [SL 7 ev, SL 21 rows, I q, I t, I fr, B sh], I n]) (fun (rs7 : List SV) => ∃ l4 : List (List SV), ∃ l5 : List (List SV), ∃ x9 : Int, ∃ x10 : Int, ∃ x11 : Int, ∃ b7 : Bool, ∃ x12 : Int, (rs7 = [SV.agg [SL 7 l4, SL 21 l5, I x9, I x10, I x11, B b7], I x12]) ∧ (Cl Try.prog 67 sP ([SV.agg [SL 7 ev, SL 21 rows, I q, I t, I fr, B sh], I n]) (fun (rs8 : List SV) => ∃ l6 : List (List SV), ∃ l7 : List (List SV), ∃ x13 : Int, ∃ x14 : Int, ∃ x15 : Int, ∃ b8 : Bool, ∃ x16 : Int, (rs8 = [SV.agg [SL 7 l6, SL 21 l7, I x13, I x14, I x15, B b8], I x16]) ∧ (ifB (ine x12 x16) (Q [B false]) (Cl Try.prog 65 sP ([SV.agg [SL 7 l4, SL 21 l5, I x9, I x10, I x11, B b7], SV.agg [SL 7 l6, SL 21 l7, I x13, I x14, I x15, B b8]]) (fun (rs9 : List SV) => ∃ b9 : Bool, (rs9 = [B b9]) ∧ (ifB (bnot b9) (Q [B false]) (Cl Try.prog 68 sP ([SV.agg [SL 7 ev, SL 21 rows, I q, I t, I fr, B sh]]) (fun (rs10 : List SV) => ∃ l8 : List (List SV), ∃ l9 : List (List SV), ∃ x17 : Int, ∃ x18 : Int, ∃ x19 : Int, ∃ b10 : Bool, (rs10 = [SV.agg [SL 7 l8, SL 21 l9, I x17, I x18, I x19, B b10]]) ∧ (Cl Try.prog 65 sP ([SV.agg [SL 7 l8, SL 21 l9, I x17, I x18, I x19, B b10], SV.agg [SL 7 ev, SL 21 rows, I q, I t, I fr, B true]]) (fun (rs11 : List SV) => ∃ b11 : Bool, (rs11 = [B b11]) ∧ (ifB b11 (Cl Try.prog 70 sP ([SV.agg [SL 7 ev, SL 21 rows, I q, I t, I fr, B sh], I n]) (fun (rs12 : List SV) => ∃ l10 : List (List SV), (rs12 = [SL 7 l10]) ∧ (Cl Try.prog 71 sP ([SV.agg [SL 7 ev, SL 21 rows, I q, I t, I fr, B sh], I n]) (fun (rs13 : List SV) => ∃ l11 : List (List SV), (rs13 = [SL 7 l11]) ∧ (Cl Try.prog 69 sP [SL 7 l10, SL 7 l11] (fun (rs14 : List SV) => ∃ b12 : Bool, (rs14 = [B b12]) ∧ (Q [B b12]))))))) (Q [B false])))))))))))))))))))))))))))))))) : Ct Try.prog 10 {} [li6 ev rows q t fr sh, ev7 s a k c x y z, I n] Q :=
  fn_of (f := 10) SgT SvT (fun _ => none) Try.f10 Try.func10 (by kernel_rfl) (by kernel_rfl) h

end Go.Proofs.Ytohmeljljamigaa.Li

namespace Go.Proofs.Ytohmeljljamigaa.Li
open Go Go.Px Go.Proofs Go.Proofs.Ytohmeljljamigaa.Cmp Go.Proofs.Ytohmeljljamigaa.St
set_option maxRecDepth 100000
set_option linter.unusedVariables false

theorem law11_nf (ev rows : List (List SV)) (q t fr : Int) (sh : Bool) (a1 b1 : Int) (s a k : Int) (c : ByteArray) (x y z : Int) (Q : List SV → Prop) (h : Cl Try.prog 59 sP [] (fun (rs : List SV) => ∃ b : Bool, (rs = [B b]) ∧ (ifB (bnot b) (Q [B false]) (Cl Try.prog 60 sP ([SV.agg [SL 7 ev, SL 21 rows, I q, I t, I fr, B sh]]) (fun (rs1 : List SV) => ∃ b2 : Bool, (rs1 = [B b2]) ∧ (ifB (bpick (bnot b2) true (igt (slen c) 100)) (Q [B true]) (Cl Try.prog 63 sP ([SV.agg [SL 7 ev, SL 21 rows, I q, I t, I fr, B sh]]) (fun (rs2 : List SV) => ∃ b3 : Bool, (rs2 = [B b3]) ∧ (ifB (bnot b3) (Q [B true]) (((wadd IntKind.i64 (wsub IntKind.i64 q fr) 1 = 0) → False) ∧ (((wadd IntKind.i64 (wsub IntKind.i64 q fr) 1 = 0) → False) ∧ (Cl Try.prog 66 sP ([SV.agg [SL 7 ev, SL 21 rows, I q, I t, I fr, B sh], I (wadd IntKind.i64 fr (wrem (wcv IntKind.i64 a1) (wadd IntKind.i64 (wsub IntKind.i64 q fr) 1)))]) (fun (rs3 : List SV) => ∃ l : List (List SV), ∃ l1 : List (List SV), ∃ x1 : Int, ∃ x2 : Int, ∃ x3 : Int, ∃ b4 : Bool, ∃ x4 : Int, (rs3 = [SV.agg [SL 7 l, SL 21 l1, I x1, I x2, I x3, B b4], I x4]) ∧ (Cl Try.prog 66 sP ([SV.agg [SL 7 l, SL 21 l1, I x1, I x2, I x3, B b4], I (wadd IntKind.i64 fr (wrem (wcv IntKind.i64 b1) (wadd IntKind.i64 (wsub IntKind.i64 q fr) 1)))]) (fun (rs4 : List SV) => ∃ l2 : List (List SV), ∃ l3 : List (List SV), ∃ x5 : Int, ∃ x6 : Int, ∃ x7 : Int, ∃ b5 : Bool, ∃ x8 : Int, (rs4 = [SV.agg [SL 7 l2, SL 21 l3, I x5, I x6, I x7, B b5], I x8]) ∧ (Cl Try.prog 66 sP ([SV.agg [SL 7 ev, SL 21 rows, I q, I t, I fr, B sh], I (imax (wadd IntKind.i64 fr (wrem (wcv IntKind.i64 a1) (wadd IntKind.i64 (wsub IntKind.i64 q fr) 1))) (wadd IntKind.i64 fr (wrem (wcv IntKind.i64 b1) (wadd IntKind.i64 (wsub IntKind.i64 q fr) 1))))]) (fun (rs5 : List SV) => ∃ l4 : List (List SV), ∃ l5 : List (List SV), ∃ x9 : Int, ∃ x10 : Int, ∃ x11 : Int, ∃ b6 : Bool, ∃ x12 : Int, (rs5 = [SV.agg [SL 7 l4, SL 21 l5, I x9, I x10, I x11, B b6], I x12]) ∧ (ifB (bpick (bpick (ine x4 0) true (ine x8 0)) true (ine x12 0)) (Q [B false]) (Cl Try.prog 65 sP ([SV.agg [SL 7 l2, SL 21 l3, I x5, I x6, I x7, B b5], SV.agg [SL 7 l4, SL 21 l5, I x9, I x10, I x11, B b6]]) (fun (rs6 : List SV) => ∃ b7 : Bool, (rs6 = [B b7]) ∧ (ifB (bnot b7) (Q [B false]) (Cl Try.prog 70 sP ([SV.agg [SL 7 l, SL 21 l1, I x1, I x2, I x3, B b4], I (wadd IntKind.i64 fr (wrem (wcv IntKind.i64 a1) (wadd IntKind.i64 (wsub IntKind.i64 q fr) 1)))]) (fun (rs7 : List SV) => ∃ l6 : List (List SV), (rs7 = [SL 7 l6]) ∧ (Cl Try.prog 69 sP [SL 7 l6, SL 7 l] (fun (rs8 : List SV) => ∃ b8 : Bool, (rs8 = [B b8]) ∧ (ifB (bnot b8) (Q [B false]) (Cl Try.prog 70 sP ([SV.agg [SL 7 ev, SL 21 rows, I q, I t, I fr, B sh], I (wadd IntKind.i64 fr (wrem (wcv IntKind.i64 a1) (wadd IntKind.i64 (wsub IntKind.i64 q fr) 1)))]) (fun (rs9 : List SV) => ∃ l7 : List (List SV), (rs9 = [SL 7 l7]) ∧ (Cl Try.prog 69 sP [SL 7 l7, SL 7 l] (fun (rs10 : List SV) => ∃ b9 : Bool, (rs10 = [B b9]) ∧ (ifB (bnot b9) (Q [B false]) (Cl Try.prog 61 sP ([SV.agg [SL 7 ev, SL 21 rows, I q, I t, I fr, B sh], SV.agg [I s, I a, I k, S c, I x, I y, I z]]) (fun (rs11 : List SV) => ∃ l8 : List (List SV), ∃ l9 : List (List SV), ∃ x13 : Int, ∃ x14 : Int, ∃ x15 : Int, ∃ b10 : Bool, ∃ x16 : Int, (rs11 = [SV.agg [SL 7 l8, SL 21 l9, I x13, I x14, I x15, B b10], I x16]) ∧ (Cl Try.prog 61 sP ([SV.agg [SL 7 l, SL 21 l1, I x1, I x2, I x3, B b4], SV.agg [I s, I a, I k, S c, I x, I y, I z]]) (fun (rs12 : List SV) => ∃ l10 : List (List SV), ∃ l11 : List (List SV), ∃ x17 : Int, ∃ x18 : Int, ∃ x19 : Int, ∃ b11 : Bool, ∃ x20 : Int, (rs12 = [SV.agg [SL 7 l10, SL 21 l11, I x17, I x18, I x19, B b11], I x20]) ∧ (ifB (bpick (ine x16 x20) true (ine x16 0)) (Q [B (ieq x16 x20)]) (Cl Try.prog 66 sP ([SV.agg [SL 7 l8, SL 21 l9, I x13, I x14, I x15, B b10], I (wadd IntKind.i64 fr (wrem (wcv IntKind.i64 a1) (wadd IntKind.i64 (wsub IntKind.i64 q fr) 1)))]) (fun (rs13 : List SV) => ∃ l12 : List (List SV), ∃ l13 : List (List SV), ∃ x21 : Int, ∃ x22 : Int, ∃ x23 : Int, ∃ b12 : Bool, ∃ x24 : Int, (rs13 = [SV.agg [SL 7 l12, SL 21 l13, I x21, I x22, I x23, B b12], I x24]) ∧ (ifB (ieq x24 0) (Cl Try.prog 65 sP ([SV.agg [SL 7 l10, SL 21 l11, I x17, I x18, I x19, B b11], SV.agg [SL 7 l12, SL 21 l13, I x21, I x22, I x23, B b12]]) (fun (rs14 : List SV) => ∃ b13 : Bool, (rs14 = [B b13]) ∧ (ifB b13 (Cl Try.prog 49 sP ([SV.agg [SL 21 l9, I x13, I x14], SV.agg [SL 21 l11, I x17, I x18]]) (fun (rs15 : List SV) => ∃ b14 : Bool, (rs15 = [B b14]) ∧ (Q [B b14]))) (Q [B false])))) (Q [B false])))))))))))))))))))))))))))))))))))))))) : Ct Try.prog 11 {} [li6 ev rows q t fr sh, .val (.int .u16 a1), .val (.int .u16 b1), ev7 s a k c x y z] Q :=
  fn_of (f := 11) SgT SvT (fun _ => none) Try.f11 Try.func11 (by kernel_rfl) (by kernel_rfl) h

end Go.Proofs.Ytohmeljljamigaa.Li

namespace Go.Proofs.Ytohmeljljamigaa.Li
open Go Go.Px Go.Proofs Go.Proofs.Ytohmeljljamigaa.Cmp Go.Proofs.Ytohmeljljamigaa.St
set_option maxRecDepth 100000
set_option linter.unusedVariables false

theorem law12_nf (ev : List (List SV)) (n : Int) (Q : List SV → Prop) (h : Cl Try.prog 59 sP [] (fun (rs : List SV) => ∃ b : Bool, (rs = [B b]) ∧ (ifB (bnot b) (Q [B false]) (ifB (igt (rlen ev) 60) (Q [B true]) (Cl Try.prog 44 sP [SL 7 ev] (fun (rs1 : List SV) => ∃ b1 : Bool, (rs1 = [B b1]) ∧ (ifB (bnot b1) (Q [B true]) (∃ Inv : Int → (List (List SV)) → (List (List SV)) → Int → Int → Int → Bool → Prop, ∃ m : Int → (List (List SV)) → (List (List SV)) → Int → Int → Int → Bool → Nat, (Inv 0 [] [] ((0 : Int)) ((0 : Int)) ((0 : Int)) false) ∧ (∀ x : Int, ∀ l : List (List SV), ∀ l1 : List (List SV), ∀ x1 : Int, ∀ x2 : Int, ∀ x3 : Int, ∀ b2 : Bool, (Inv x l l1 x1 x2 x3 b2) → ifB (ilt x (rlen ev)) (∃ Inv1 : Int → (List (List SV)) → (List (List SV)) → Int → Int → Int → Bool → Prop, ∃ m1 : Int → (List (List SV)) → (List (List SV)) → Int → Int → Int → Bool → Nat, ((((0 : Int) ≤ x) ∧ (x < (rlen ev))) ∧ (∃ x4 : Int, ∃ x5 : Int, ∃ x6 : Int, ∃ s : ByteArray, ∃ x7 : Int, ∃ x8 : Int, ∃ x9 : Int, (rget ev x = [I x4, I x5, I x6, S s, I x7, I x8, I x9]) ∧ ((Cl Try.prog 61 sP ([SV.agg [SL 7 l, SL 21 l1, I x1, I x2, I x3, B b2], SV.agg [I x4, I x5, I x6, S s, I x7, I x8, I x9]]) (fun (rs2 : List SV) => ∃ l2 : List (List SV), ∃ l3 : List (List SV), ∃ x10 : Int, ∃ x11 : Int, ∃ x12 : Int, ∃ b3 : Bool, ∃ x13 : Int, (rs2 = [SV.agg [SL 7 l2, SL 21 l3, I x10, I x11, I x12, B b3], I x13]) ∧ ((Option.some ([[SL 7 l, SL 21 l1, I x1, I x2, I x3, B b2]]) = Option.some ([[SL 7 l, SL 21 l1, I x1, I x2, I x3, B b2]])) ∧ (Inv1 x13 l2 l3 x10 x11 x12 b3)))) ∧ (Cl Try.prog 61 sP ([SV.agg [SL 7 l, SL 21 l1, I x1, I x2, I x3, B b2], SV.agg [I x4, I x5, I x6, S s, I x7, I x8, I x9]]) (fun (rs2 : List SV) => ∃ l2 : List (List SV), ∃ l3 : List (List SV), ∃ x10 : Int, ∃ x11 : Int, ∃ x12 : Int, ∃ b3 : Bool, ∃ x13 : Int, (rs2 = [SV.agg [SL 7 l2, SL 21 l3, I x10, I x11, I x12, B b3], I x13]) ∧ ((Option.some ([[SL 7 l, SL 21 l1, I x1, I x2, I x3, B b2]]) = Option.some ([[SL 7 l, SL 21 l1, I x1, I x2, I x3, B b2]])) ∧ (Inv1 x13 l2 l3 x10 x11 x12 b3))))))) ∧ (∀ x4 : Int, ∀ l2 : List (List SV), ∀ l3 : List (List SV), ∀ x5 : Int, ∀ x6 : Int, ∀ x7 : Int, ∀ b3 : Bool, (Inv1 x4 l2 l3 x5 x6 x7 b3) → ∃ Inv2 : Bool → Prop, ∃ m2 : Bool → Nat, (Cl Try.prog 63 sP ([SV.agg [SL 7 l2, SL 21 l3, I x5, I x6, I x7, B b3]]) (fun (rs2 : List SV) => ∃ b4 : Bool, (rs2 = [B b4]) ∧ (ifB (bpick (bnot b4) true (bnot (beqB (ieq x4 0) (ieq (rlen l2) (wadd IntKind.i64 (rlen l) 1))))) ((Option.some ([[SL 7 l, SL 21 l1, I x1, I x2, I x3, B b2], [SL 7 l2, SL 21 l3, I x5, I x6, I x7, B b3]]) = Option.some ([[SL 7 l, SL 21 l1, I x1, I x2, I x3, B b2], [SL 7 l2, SL 21 l3, I x5, I x6, I x7, B b3]])) ∧ (Inv2 true)) (ifB (ine x4 0) (Cl Try.prog 65 sP ([SV.agg [SL 7 l, SL 21 l1, I x1, I x2, I x3, B b2], SV.agg [SL 7 l2, SL 21 l3, I x5, I x6, I x7, B b3]]) (fun (rs3 : List SV) => ∃ b5 : Bool, (rs3 = [B b5]) ∧ ((Option.some ([[SL 7 l, SL 21 l1, I x1, I x2, I x3, B b2], [SL 7 l2, SL 21 l3, I x5, I x6, I x7, B b3]]) = Option.some ([[SL 7 l, SL 21 l1, I x1, I x2, I x3, B b2], [SL 7 l2, SL 21 l3, I x5, I x6, I x7, B b3]])) ∧ (Inv2 (bnot b5))))) ((Option.some ([[SL 7 l, SL 21 l1, I x1, I x2, I x3, B b2], [SL 7 l2, SL 21 l3, I x5, I x6, I x7, B b3]]) = Option.some ([[SL 7 l, SL 21 l1, I x1, I x2, I x3, B b2], [SL 7 l2, SL 21 l3, I x5, I x6, I x7, B b3]])) ∧ (Inv2 false)))))) ∧ (∀ b4 : Bool, (Inv2 b4) → ifB b4 (Q [B false]) (((Option.some [] : Option (List (List SV))) = Option.some []) ∧ ((Inv (wadd IntKind.i64 x 1) l2 l3 x5 x6 x7 b3) ∧ (Nat.le (Nat.succ (m (wadd IntKind.i64 x 1) l2 l3 x5 x6 x7 b3)) (m x l l1 x1 x2 x3 b2))))))) (Cl Try.prog 54 sP ([SV.agg ([SL 21 [], I ((0 : Int)), I ((0 : Int))]), SL 7 l]) (fun (rs2 : List SV) => ∃ l2 : List (List SV), ∃ x4 : Int, ∃ x5 : Int, ∃ x6 : Int, ∃ x7 : Int, (rs2 = [SV.agg [SL 21 l2, I x4, I x5], I x6, I x7]) ∧ (ifB (bpick (ine x7 0) true (ine x6 (rlen l))) (Q [B false]) (Cl Try.prog 49 sP ([SV.agg [SL 21 l2, I x4, I x5], SV.agg [SL 21 l1, I x1, I x2]]) (fun (rs3 : List SV) => ∃ b3 : Bool, (rs3 = [B b3]) ∧ (ifB (bpick (bnot b3) true (ine x1 x6)) (Q [B false]) (((wadd IntKind.i64 x1 1 = 0) → False) ∧ (Cl Try.prog 66 sP ([SV.agg [SL 7 l, SL 21 l1, I x1, I x2, I x3, B b2], I (wrem (wcv IntKind.i64 n) (wadd IntKind.i64 x1 1))]) (fun (rs4 : List SV) => ∃ l3 : List (List SV), ∃ l4 : List (List SV), ∃ x8 : Int, ∃ x9 : Int, ∃ x10 : Int, ∃ b4 : Bool, ∃ x11 : Int, (rs4 = [SV.agg [SL 7 l3, SL 21 l4, I x8, I x9, I x10, B b4], I x11]) ∧ ((((0 : Int) ≤ 0) ∧ (((0 : Int) ≤ (wrem (wcv IntKind.i64 n) (wadd IntKind.i64 x1 1))) ∧ ((wrem (wcv IntKind.i64 n) (wadd IntKind.i64 x1 1)) ≤ (rlen l)))) ∧ (((lsum (rlen []) (rlen (rsub l 0 (wrem (wcv IntKind.i64 n) (wadd IntKind.i64 x1 1))))) ≤ ((2147483648 : Int))) ∧ (((lsum (rlen (rapp [] (rsub l 0 (wrem (wcv IntKind.i64 n) (wadd IntKind.i64 x1 1))))) (rlen l3)) ≤ ((2147483648 : Int))) ∧ (ifB (ieq x11 0) (Cl Try.prog 63 sP ([SV.agg [SL 7 l3, SL 21 l4, I x8, I x9, I x10, B b4]]) (fun (rs5 : List SV) => ∃ b5 : Bool, (rs5 = [B b5]) ∧ (ifB (bpick b5 (ieq x10 (wrem (wcv IntKind.i64 n) (wadd IntKind.i64 x1 1))) false) (Cl Try.prog 49 sP ([SV.agg [SL 21 l4, I x8, I x9], SV.agg [SL 21 l1, I x1, I x2]]) (fun (rs6 : List SV) => ∃ b6 : Bool, (rs6 = [B b6]) ∧ (ifB b6 (Cl Try.prog 69 sP ([SV.slice 7 (rapp (rapp [] (rsub l 0 (wrem (wcv IntKind.i64 n) (wadd IntKind.i64 x1 1)))) l3) 0, SL 7 l]) (fun (rs7 : List SV) => ∃ b7 : Bool, (rs7 = [B b7]) ∧ (Q [B b7]))) (Q [B false])))) (Q [B false])))) (Q [B false]))))))))))))))))))))))) : Ct Try.prog 12 {} [SL 7 ev, U8 n] Q :=
  fn_of (f := 12) SgT SvT (fun k => bif Nat.beq k 27 then some { slots := [(6,false,[.int .i64])], boxes := [(640,[.sl 7,.sl 21,.int .i64,.int .i64,.int .i64,.bool])] } else bif Nat.beq k 1000009 then some { slots := [(8,false,[.int .i64])], boxes := [(896,[.sl 7,.sl 21,.int .i64,.int .i64,.int .i64,.bool])], fixed := [640], ptrs := [(7,896)] } else bif Nat.beq k 1000010 then some { slots := [(67,false,[.bool])], fixed := [640,896] } else none) Try.f12 Try.func12 (by kernel_rfl) (by kernel_rfl) h

end Go.Proofs.Ytohmeljljamigaa.Li

namespace Go.Proofs.Ytohmeljljamigaa.Li
open Go Go.Px Go.Proofs Go.Proofs.Ytohmeljljamigaa.Cmp Go.Proofs.Ytohmeljljamigaa.St
set_option maxRecDepth 100000
set_option linter.unusedVariables false

theorem iclone_fn (l : List EvD) (h : l.length ≤ 2147483648) : Ct Try.prog 129 ⟨[], [.own]⟩ [SL 7 (eR l)] (fun r => r = [SL 7 (eR l)]) := by
  refine iclone_nf _ _ (fun b hb => ifB_intro (fun e => ?_) (fun e => ⟨by simp; omega, by simp [rapp]⟩))
  have := hb e
  have : l = [] := by
    have h2 : (eR l).length = 0 := by simp only [rlen_eq] at this; omega
    rw [List.length_map] at h2
    exact List.eq_nil_of_length_eq_zero h2
  rw [this]; rfl

theorem iright_fn (l : LiD) (hl : l.ev.length ≤ 9223372036854775807) : Ct Try.prog 63 {} [l.sv] (fun r => r = [B (decide l.P)]) := by
  have no : ¬ l.P → [B false] = [B (decide l.P)] := fun h => by simp [h]
  refine iright_nf _ _ _ _ _ _ _ (Cl.of (sright_fn l.s) ⟨_, rfl, ifB_intro (fun h => no (fun p => ?_)) (fun h => ?_)⟩)
  · have := p.1; simp [this.1] at h; omega
  have h : l.s.P ∧ 0 ≤ l.fr ∧ l.fr ≤ l.s.q := by simp at h; exact ⟨h.1.1, by omega, by omega⟩
  have hq := h.1.1.2.2.1
  rw [wsub_i64 (a := l.s.q) (b := l.fr) (by omega) (by omega)]
  refine ifB_intro (fun h2 => no (fun p => ?_)) (fun h2 => ?_)
  · have := p.1; simp at h2; omega
  have h2 : (l.ev.length : Int) = l.s.q - l.fr := by simpa using h2
  refine ⟨fun _ x => ∃ i : Nat, x = i ∧ i ≤ l.ev.length ∧ ∀ j : Nat, ∀ hj : j < l.ev.length, j < i → evP l j hj, fun _ x => l.ev.length - x.toNat, ⟨0, rfl, by omega, fun j _ hj => by omega⟩, ?_⟩
  rintro b _ ⟨i, rfl, hi, hall⟩
  refine ifB_intro (fun h3 => ?_) (fun h3 => ?_)
  · have h3 : i < l.ev.length := by simpa using h3
    have st : Nat.le (Nat.succ (l.ev.length - ((i + 1 : Nat) : Int).toNat)) (l.ev.length - ((i : Nat) : Int).toNat) := stepL (by simp; omega)
    have nxt : evP l i h3 → ∃ k : Nat, ((i + 1 : Nat) : Int) = k ∧ k ≤ l.ev.length ∧ ∀ j : Nat, ∀ hj : j < l.ev.length, j < k → evP l j hj := fun a =>
      ⟨i + 1, rfl, by omega, fun j hj hjk => by
        by_cases e : j = i
        · subst e; exact a
        · exact hall j hj (by omega)⟩
    rw [waddN _ (by omega), wadd_i64 (a := l.fr) (b := 1) (by omega) (by omega), wadd_i64 (a := l.fr + 1) (b := (i : Int)) (by omega) (by omega)]
    refine ⟨⟨by omega, by simpa using h3⟩, _, _, _, _, _, _, _, rget_map _ _ _ h3, Cl.of (check_fn l.ev[i].s l.ev[i].a l.ev[i].k l.ev[i].c l.ev[i].x l.ev[i].y l.ev[i].z) ⟨_, rfl, ifB_intro (fun h4 => no (fun p => ?_)) (fun h4 => ?_)⟩⟩
    · obtain ⟨q1, q2⟩ := (p.2.1 i h3).1
      unfold chkE at q1
      rw [q1, q2] at h4
      simp at h4
    · have h4 : chkE l.ev[i] = 0 ∧ l.ev[i].s = l.fr + 1 + i := by unfold chkE; simpa using h4
      refine ifB_intro (fun h5 => ?_) (fun h5 => ?_)
      · have h5 : 0 < i := by simpa using h5
        have w : wsub .i64 (i : Int) 1 = ((i - 1 : Nat) : Int) := by rw [wsub_i64 (by omega) (by omega)]; omega
        rw [w]
        have hi1 : i - 1 < l.ev.length := by omega
        refine ⟨⟨by omega, by simp; omega⟩, _, _, _, _, _, _, _, rget_map _ _ _ hi1, ifB_intro (fun h6 => no (fun p => ?_)) (fun h6 => ⟨rfl, nxt ⟨h4, fun _ => by simpa using h6⟩, st⟩)⟩
        have := (p.2.1 i h3).2 h5
        simp at h6; omega
      · have h5 : ¬ 0 < i := by simpa using h5
        exact ⟨rfl, nxt ⟨h4, fun h => absurd h h5⟩, st⟩
  · have h3 : ¬ i < l.ev.length := by simpa using h3
    have ha : ∀ i, ∀ h : i < l.ev.length, evP l i h := fun j hj => hall j hj (by omega)
    refine ifB_intro (fun h4 => ?_) (fun h4 => ?_)
    · have h4 : l.ev.length = 0 := by simp at h4; simp [h4]
      rw [decide_eq_true (show l.P from ⟨⟨h.1, h.2.1, h.2.2, h2⟩, ha, fun h => by omega⟩)]
    · have h4 : 0 < l.ev.length := by simp at h4; exact List.length_pos_iff.2 (by simpa using h4)
      have w : wsub .i64 (rlen (eR l.ev)) 1 = ((l.ev.length - 1 : Nat) : Int) := by rw [rlen_eq, List.length_map, wsub_i64 (by omega) (by omega)]; omega
      rw [w]
      have hi1 : l.ev.length - 1 < l.ev.length := by omega
      refine ⟨⟨by omega, by simp; omega⟩, _, _, _, _, _, _, _, rget_map _ _ _ hi1, congrArg (fun b => [B b]) ?_⟩
      rw [ieq_eq, decide_eq_decide]
      exact ⟨fun k => ⟨⟨h.1, h.2.1, h.2.2, h2⟩, ha, fun _ => k⟩, fun p => p.2.2 h4⟩

theorem ishut_fn (l : LiD) : Ct Try.prog 68 {} [l.sv] (fun r => r = [(shutL l).sv]) := ishut_nf _ _ _ _ _ _ _ rfl

theorem P_len {l : LiD} (p : l.P) : l.ev.length ≤ 4294967296 := by
  have := p.1; have := this.1.1; omega

theorem idrop_fn (l : LiD) (hl : l.ev.length ≤ 2147483648) (n : Int) (hn : -9223372036854775808 ≤ n) : Ct Try.prog 66 {} [l.sv, I n] (fun r => r = [(drL l n).1.sv, I (drL l n).2]) := by
  refine idrop_nf _ _ _ _ _ _ _ _ (Cl.of (iright_fn l (by omega)) ⟨_, rfl, ifB_intro (fun h => ?_) (fun h => ?_)⟩)
  · have h : ¬ l.P ∨ l.s.q < n := by simpa using h
    unfold drL; rw [if_pos h]
  have h : l.P ∧ ¬ l.s.q < n := by simp at h; exact ⟨h.1, by omega⟩
  have e : drL l n = if l.fr < n then ({ l with ev := l.ev.drop (n - l.fr).toNat, fr := n }, 0) else (l, 0) := by unfold drL; rw [if_neg (by simp [h.1]; omega)]
  rw [e]
  have hp := h.1.1
  have hq := hp.1.1.2.2.1
  refine ifB_intro (fun h2 => ?_) (fun h2 => ?_)
  · have h2 : l.fr < n := by simpa using h2
    rw [if_pos h2, wsub_i64 (by omega) (by omega)]
    have e2 : rsub (eR l.ev) (n - l.fr) (rlen (eR l.ev)) = eR (l.ev.drop (n - l.fr).toNat) := by rw [rsub_map]; simp
    rw [e2]
    refine ⟨⟨by omega, by simp; omega, Int.le_refl _⟩, Cl.of (iclone_fn _ (by simp; omega)) ⟨_, rfl, rfl⟩⟩
  · rw [if_neg (by simpa using h2)]

theorem iappend_fn (l : LiD) (hl : l.ev.length ≤ 1000000) (hc : l.s.cs.length ≤ 1000000) (e : EvD) : Ct Try.prog 61 {} [l.sv, e.sv] (fun r => r = [(apL l e).1.sv, I (apL l e).2]) := by
  refine iappend_nf _ _ _ _ _ _ _ _ _ _ _ _ _ _ (Cl.of (iright_fn l (by omega)) ⟨_, rfl, ifB_intro (fun h => ?_) (fun h => ?_)⟩)
  · have h : ¬ l.P := by simpa using h
    unfold apL; rw [if_pos h]
  have h : l.P := by simpa using h
  have hq := h.1.1.1
  have w : wadd .i64 l.s.q 1 = l.s.q + 1 := wadd_i64 (by omega) (by omega)
  rw [w]
  unfold apL
  rw [if_neg (by simp [h])]
  refine Cl.of (sapply_fn l.s hc (numE e l.s.q)) ⟨_, _, _, _, rfl, ifB_intro (fun h2 => ?_) (fun h2 => ?_)⟩
  · rw [if_pos (by simpa using h2)]
  rw [if_neg (by simpa using h2)]
  refine ifB_intro (fun h3 => ?_) (fun h3 => ?_)
  · rw [if_pos h3]
  rw [if_neg (by simp [h3])]
  have k : ∀ K : List SV → Prop, K [SL 7 (eR l.ev)] → Cl Try.prog 129 sO [SL 7 (eR l.ev)] K := fun K hK => Cl.of (iclone_fn l.ev (by omega)) hK
  exact ⟨k _ ⟨_, rfl, by simp; omega, by simp [rapp, numE]⟩, k _ ⟨_, rfl, by simp; omega, by simp [rapp, numE]⟩⟩
end Go.Proofs.Ytohmeljljamigaa.Li

namespace Go.Proofs.Ytohmeljljamigaa.Li
open Go Go.Px Go.Proofs Go.Proofs.Ytohmeljljamigaa.Cmp Go.Proofs.Ytohmeljljamigaa.St
set_option maxRecDepth 100000
set_option linter.unusedVariables false

theorem sq_at {l : LiD} (p : l.P) {i : Nat} (h : i < l.ev.length) : l.ev[i].s = l.fr + 1 + i := (p.2.1 i h).1.2

theorem irright_fn (l : LiD) (hl : l.ev.length ≤ 1000000) (hf : l.fr ≤ 9223372036854775807) : Ct Try.prog 64 {} [l.sv] (fun r => r = [B (decide l.P)]) := by
  have no : ¬ l.P → [B false] = [B (decide l.P)] := fun h => by simp [h]
  refine irright_nf _ _ _ _ _ _ _ (Cl.of (srright_fn l.s) ⟨_, rfl, ifB_intro (fun h => no (fun p => ?_)) (fun h => ?_)⟩)
  · have q := p.1
    have hq := q.1.1
    have e : wadd .i64 l.fr (rlen (eR l.ev)) = l.s.q := by rw [rlen_eq, List.length_map, wadd_i64 (by omega) (by omega)]; omega
    rw [e] at h
    simp [q.1] at h; omega
  have h : (l.s.P ∧ 0 ≤ l.fr) ∧ wadd .i64 l.fr (rlen (eR l.ev)) = l.s.q := by simp at h ⊢; exact ⟨⟨h.1.1, by omega⟩, h.2⟩
  obtain ⟨⟨hp, h0⟩, hw⟩ := h
  have hq := hp.1
  have hfl : l.fr + l.ev.length = l.s.q := by
    rw [rlen_eq, List.length_map] at hw
    by_cases k : l.fr + l.ev.length ≤ 9223372036854775807
    · rw [wadd_i64 (by omega) (by omega)] at hw; exact hw
    · exfalso
      simp only [wadd, IntKind.wrap, IntKind.signed, IntKind.bits] at hw
      simp at hw
      omega
  refine ⟨fun _ x => ∃ i : Nat, x = i ∧ i ≤ l.ev.length ∧ ∀ j : Nat, ∀ hj : j < l.ev.length, j < i → evP l j hj ∧ (j + 1 = l.ev.length → l.ev[j].a = l.s.t), fun _ x => l.ev.length - x.toNat, ⟨0, rfl, by omega, fun j _ hj => by omega⟩, ?_⟩
  rintro b _ ⟨i, rfl, hi, hall⟩
  refine ifB_intro (fun h3 => ?_) (fun h3 => ?_)
  · have h3 : i < l.ev.length := by simpa using h3
    have st : Nat.le (Nat.succ (l.ev.length - ((i + 1 : Nat) : Int).toNat)) (l.ev.length - ((i : Nat) : Int).toNat) := stepL (by simp; omega)
    have nxt : evP l i h3 → (i + 1 = l.ev.length → l.ev[i].a = l.s.t) → ∃ k : Nat, ((i + 1 : Nat) : Int) = k ∧ k ≤ l.ev.length ∧ ∀ j : Nat, ∀ hj : j < l.ev.length, j < k → evP l j hj ∧ (j + 1 = l.ev.length → l.ev[j].a = l.s.t) := fun a a2 =>
      ⟨i + 1, rfl, by omega, fun j hj hjk => by
        by_cases e : j = i
        · subst e; exact ⟨a, a2⟩
        · exact hall j hj (by omega)⟩
    have lst : l.P → i + 1 = l.ev.length → l.ev[i].a = l.s.t := fun p e => by
      have := p.2.2 (by omega)
      have e2 : l.ev.length - 1 = i := by omega
      simp only [e2] at this; exact this
    rw [waddN _ (by omega), wadd_i64 (a := l.fr) (b := ((i + 1 : Nat) : Int)) (by omega) (by omega)]
    refine ⟨⟨by omega, by simpa using h3⟩, _, _, _, _, _, _, _, rget_map _ _ _ h3, Cl.of (rcheck_fn l.ev[i].s l.ev[i].a l.ev[i].k l.ev[i].c l.ev[i].x l.ev[i].y l.ev[i].z) ⟨_, rfl, ifB_intro (fun h4 => no (fun p => ?_)) (fun h4 => ?_)⟩⟩
    · obtain ⟨q1, q2⟩ := (p.2.1 i h3).1
      unfold chkE at q1
      rw [q1, q2] at h4
      simp at h4; omega
    · have h4 : chkE l.ev[i] = 0 ∧ l.ev[i].s = l.fr + 1 + i := by unfold chkE; simp at h4; exact ⟨h4.1, by omega⟩
      refine ifB_intro (fun h5 => ?_) (fun h5 => ?_)
      · have h5 : 0 < i := by simpa using h5
        have w : wsub .i64 (i : Int) 1 = ((i - 1 : Nat) : Int) := by rw [wsub_i64 (by omega) (by omega)]; omega
        rw [w]
        have hi1 : i - 1 < l.ev.length := by omega
        refine ⟨⟨by omega, by simp; omega⟩, _, _, _, _, _, _, _, rget_map _ _ _ hi1, ifB_intro (fun h6 => no (fun p => ?_)) (fun h6 => ⟨rfl, nxt ⟨h4, fun _ => ?_⟩ ?_, st⟩)⟩
        · have q1 := (p.2.1 i h3).2 h5
          have q2 := lst p
          simp at h6
          rcases h6 with h6 | ⟨h6, h7⟩
          · omega
          · exact h7 (q2 (by omega))
        · simp at h6; omega
        · intro e
          simp at h6
          exact h6.2 (by omega)
      · have h5 : ¬ 0 < i := by simpa using h5
        refine ifB_intro (fun h6 => no (fun p => ?_)) (fun h6 => ⟨rfl, nxt ⟨h4, fun h => absurd h h5⟩ ?_, st⟩)
        · have q2 := lst p
          simp at h6
          exact h6.2 (q2 (by omega))
        · intro e
          simp at h6
          exact h6 (by omega)
  · have h3 : ¬ i < l.ev.length := by simpa using h3
    rw [decide_eq_true (show l.P from ⟨⟨hp, h0, by omega, by omega⟩, fun j hj => (hall j hj (by omega)).1, fun h => (hall (l.ev.length - 1) (by omega) (by omega)).2 (by omega)⟩)]
end Go.Proofs.Ytohmeljljamigaa.Li

namespace Go.Proofs.Ytohmeljljamigaa.Li
open Go Go.Px Go.Proofs Go.Proofs.Ytohmeljljamigaa.Cmp Go.Proofs.Ytohmeljljamigaa.St
set_option maxRecDepth 100000
set_option linter.unusedVariables false

theorem filt_drop (n : Int) : ∀ (l : List EvD) (f : Int), (∀ i, ∀ h : i < l.length, l[i].s = f + 1 + i) → l.filter (fun e => decide (n < e.s)) = l.drop (n - f).toNat
  | [], f, _ => by simp
  | e :: l, f, h => by
    have h0 : e.s = f + 1 := by
      have q := h 0 (by simp)
      rw [show ((0 : Nat) : Int) = 0 from rfl, Int.add_zero] at q
      exact q
    have ih := filt_drop n l (f + 1) (fun i hi => by
      have := h (i + 1) (by simp; omega)
      simp at this; omega)
    by_cases k : n < e.s
    · rw [List.filter_cons_of_pos (by simpa using k), ih, show (n - (f + 1)).toNat = 0 by omega, show (n - f).toNat = 0 by omega]; rfl
    · rw [List.filter_cons_of_neg (by simpa using k), ih, show (n - f).toNat = (n - (f + 1)).toNat + 1 by omega]; rfl

theorem beh_drop {l : LiD} (p : l.P) (n : Int) : behL l n = l.ev.drop (n - l.fr).toNat := by
  unfold behL
  rw [if_neg (by simp [p])]
  exact filt_drop n l.ev l.fr fun i h => sq_at p h

theorem ibehind_fn (l : LiD) (hl : l.ev.length ≤ 1000000) (n : Int) : Ct Try.prog 70 {} [l.sv, I n] (fun r => r = [SL 7 (eR (behL l n))]) := by
  refine ibehind_nf _ _ _ _ _ _ _ _ (Cl.of (iright_fn l (by omega)) ⟨_, rfl, ifB_intro (fun h => ?_) (fun h => ?_)⟩)
  · have h : ¬ l.P := by simpa using h
    unfold behL; rw [if_pos h]; rfl
  have p : l.P := by simpa using h
  have e : behL l n = l.ev.filter fun e => decide (n < e.s) := by unfold behL; rw [if_neg (by simp [p])]
  rw [e]
  refine ⟨fun m x => ∃ i : Nat, x = i ∧ i ≤ l.ev.length ∧ m = eR ((l.ev.take i).filter fun e => decide (n < e.s)), fun _ x => l.ev.length - x.toNat, ⟨0, rfl, by omega, by simp⟩, ?_⟩
  rintro _ _ ⟨i, rfl, hi, rfl⟩
  refine ifB_intro (fun h => ?_) (fun h => ?_)
  · have h : i < l.ev.length := by simpa using h
    rw [waddN _ (by omega)]
    have st : Nat.le (Nat.succ (l.ev.length - ((i + 1 : Nat) : Int).toNat)) (l.ev.length - ((i : Nat) : Int).toNat) := stepL (by simp; omega)
    have hlen : ((l.ev.take i).filter fun e => decide (n < e.s)).length ≤ l.ev.length := Nat.le_trans (List.length_filter_le _ _) (by simp; omega)
    refine ⟨⟨by omega, by simpa using h⟩, _, _, _, _, _, _, _, rget_map _ _ _ h, ifB_intro (fun z => ⟨by simp; omega, rfl, ⟨i + 1, rfl, by omega, ?_⟩, st⟩) (fun z => ⟨rfl, ⟨i + 1, rfl, by omega, ?_⟩, st⟩)⟩
    · have z : n < l.ev[i].s := by simpa using z
      rw [take_s _ _ h, List.filter_append, List.filter_cons_of_pos (by simpa using z)]
      simp [rapp]
    · have z : ¬ n < l.ev[i].s := by simpa using z
      rw [take_s _ _ h, List.filter_append, List.filter_cons_of_neg (by simpa using z)]
      simp
  · have h : ¬ i < l.ev.length := by simpa using h
    rw [List.take_of_length_le (by omega)]

theorem irbehind_fn (l : LiD) (hl : l.ev.length ≤ 1000000) (hf : l.fr ≤ 9223372036854775807) (n : Int) : Ct Try.prog 71 {} [l.sv, I n] (fun r => r = [SL 7 (eR (behL l n))]) := by
  refine irbehind_nf _ _ _ _ _ _ _ _ ⟨fun m x => ∃ i : Nat, x = i ∧ i ≤ l.ev.length ∧ (0 < i → l.P) ∧ m = eR ((l.ev.take i).filter fun e => decide (n < e.s)), fun _ x => l.ev.length - x.toNat, ⟨0, rfl, by omega, fun h => by omega, by simp⟩, ?_⟩
  rintro _ _ ⟨i, rfl, hi, hp, rfl⟩
  refine ifB_intro (fun h => Cl.of (irright_fn l hl hf) ⟨_, rfl, ifB_intro (fun k => ?_) (fun k => ?_)⟩) (fun h => ?_)
  · have h : i < l.ev.length := by simpa using h
    have p : l.P := by simpa using k
    rw [waddN _ (by omega)]
    have st : Nat.le (Nat.succ (l.ev.length - ((i + 1 : Nat) : Int).toNat)) (l.ev.length - ((i : Nat) : Int).toNat) := stepL (by simp; omega)
    have hlen : ((l.ev.take i).filter fun e => decide (n < e.s)).length ≤ l.ev.length := Nat.le_trans (List.length_filter_le _ _) (by simp; omega)
    have hr : (0 : Int) ≤ (i : Nat) ∧ ((i : Nat) : Int) < rlen (eR l.ev) := ⟨by omega, by simpa using h⟩
    refine ⟨hr, _, _, _, _, _, _, _, rget_map _ _ _ h, ifB_intro (fun z => ⟨hr, _, _, _, _, _, _, _, rget_map _ _ _ h, by simp; omega, rfl, ⟨i + 1, rfl, by omega, fun _ => p, ?_⟩, st⟩) (fun z => ⟨rfl, ⟨i + 1, rfl, by omega, fun _ => p, ?_⟩, st⟩)⟩
    · have z : n < l.ev[i].s := by simpa using z
      rw [take_s _ _ h, List.filter_append, List.filter_cons_of_pos (by simpa using z)]
      simp [rapp]
    · have z : ¬ n < l.ev[i].s := by simpa using z
      rw [take_s _ _ h, List.filter_append, List.filter_cons_of_neg (by simpa using z)]
      simp
  · have p : ¬ l.P := by simpa using k
    have : i = 0 := Decidable.byContradiction fun k => p (hp (by omega))
    subst this
    unfold behL; rw [if_pos p]; rfl
  · have h : ¬ i < l.ev.length := by simpa using h
    rw [List.take_of_length_le (by omega)]
    unfold behL
    by_cases p : l.P
    · rw [if_neg (by simp [p])]
    · have : i = 0 := Decidable.byContradiction fun k => p (hp (by omega))
      have : l.ev = [] := List.eq_nil_of_length_eq_zero (by omega)
      rw [if_pos p, this]; rfl

theorem irdrop_fn (l : LiD) (hl : l.ev.length ≤ 1000000) (hf : l.fr ≤ 9223372036854775807) (n : Int) : Ct Try.prog 67 {} [l.sv, I n] (fun r => r = [(drL l n).1.sv, I (drL l n).2]) := by
  refine irdrop_nf _ _ _ _ _ _ _ _ (Cl.of (irright_fn l hl hf) ⟨_, rfl, ifB_intro (fun h => ?_) (fun h => ?_)⟩)
  · have h : ¬ l.P ∨ l.s.q < n := by simpa using h
    unfold drL; rw [if_pos h]
  have h : l.P ∧ ¬ l.s.q < n := by simp at h; exact ⟨h.1, by omega⟩
  have e : drL l n = if l.fr < n then ({ l with ev := l.ev.drop (n - l.fr).toNat, fr := n }, 0) else (l, 0) := by unfold drL; rw [if_neg (by simp [h.1]; omega)]
  rw [e]
  refine ifB_intro (fun h2 => ?_) (fun h2 => ?_)
  · rw [if_neg (by simp at h2; omega)]
  · rw [if_pos (by simp at h2; omega)]
    refine Cl.of (irbehind_fn l hl hf n) ⟨_, rfl, ?_⟩
    rw [beh_drop h.1]

theorem irappend_fn (l : LiD) (hl : l.ev.length ≤ 1000000) (hf : l.fr ≤ 9223372036854775807) (hc : l.s.cs.length ≤ 1000000) (e : EvD) : Ct Try.prog 62 {} [l.sv, e.sv] (fun r => r = [(apL l e).1.sv, I (apL l e).2]) := by
  refine irappend_nf _ _ _ _ _ _ _ _ _ _ _ _ _ _ (Cl.of (irright_fn l hl hf) ⟨_, rfl, ifB_intro (fun h => ?_) (fun h => ?_)⟩)
  · have h : ¬ l.P := by simpa using h
    unfold apL; rw [if_pos h]
  have h : l.P := by simpa using h
  have hq := h.1.1.1
  have w : wadd .i64 l.s.q 1 = l.s.q + 1 := wadd_i64 (by omega) (by omega)
  rw [w]
  unfold apL
  rw [if_neg (by simp [h])]
  refine Cl.of (srapply_fn l.s hc (numE e l.s.q)) ⟨_, _, _, _, rfl, ifB_intro (fun h2 => ?_) (fun h2 => ?_)⟩
  · rw [if_pos (by simpa using h2)]
  rw [if_neg (by simpa using h2)]
  refine ifB_intro (fun h3 => ?_) (fun h3 => ?_)
  · rw [if_pos h3]
  rw [if_neg (by simp [h3])]
  have k : ∀ A B C : Prop, A → B → C → A ∧ B ∧ C := fun _ _ _ a b c => ⟨a, b, c⟩
  refine ⟨⟨k _ _ _ ?_ ?_ ?_, k _ _ _ ?_ ?_ ?_⟩, k _ _ _ ?_ ?_ ?_⟩
  all_goals first | (simp [rapp, numE, h3]; done) | (simp [rapp]; omega)

theorem esame_fn (a b : List EvD) (ha : a.length ≤ 9223372036854775807) : Ct Try.prog 69 {} [SL 7 (eR a), SL 7 (eR b)] (fun r => r = [B (decide (a = b))]) := by
  have no : ¬ a = b → [B false] = [B (decide (a = b))] := fun h => by simp [h]
  refine esame_nf _ _ _ (ifB_intro (fun h => no (fun e => by subst e; simp at h)) (fun h => ?_))
  have hlen : a.length = b.length := by simp at h; omega
  refine ⟨fun _ x => ∃ i : Nat, x = i ∧ i ≤ a.length ∧ ∀ j : Nat, ∀ hj : j < a.length, j < i → a[j] = b[j]'(by omega), fun _ x => a.length - x.toNat, ⟨0, rfl, by omega, fun j _ hj => by omega⟩, ?_⟩
  rintro _ _ ⟨i, rfl, hi, hall⟩
  refine ifB_intro (fun h => ?_) (fun h => ?_)
  · have h : i < a.length := by simpa using h
    have h' : i < b.length := by omega
    rw [waddN _ (by omega)]
    refine ⟨⟨by omega, by simpa using h⟩, _, _, _, _, _, _, _, rget_map _ _ _ h, ⟨by omega, by simpa using h'⟩, _, _, _, _, _, _, _, rget_map _ _ _ h', ?_⟩
    rw [seq_d]
    refine ifB_intro (fun z => no (fun e => ?_)) (fun z => ⟨rfl, ⟨i + 1, rfl, by omega, fun j hj hjk => ?_⟩, stepL (by simp; omega)⟩)
    · subst e; simp at z
    · by_cases e : j = i
      · subst e
        generalize a[j] = p at z
        generalize b[j] = q at z
        cases p; cases q; simp at z; simp [z]
      · exact hall j hj (by omega)
  · have h : ¬ i < a.length := by simpa using h
    rw [decide_eq_true (List.ext_getElem hlen fun j h1 h2 => hall j h1 (by omega))]

theorem irsame_fn (a b : LiD) (ha : a.ev.length ≤ 9223372036854775807) (hs : a.s.cs.length ≤ 9223372036854775807) (hc : ∀ c ∈ a.s.cs, c.cl.length ≤ 1000000) : Ct Try.prog 65 {} [a.sv, b.sv] (fun r => r = [B (decide (a = b))]) := by
  have no : ¬ a = b → [B false] = [B (decide (a = b))] := fun h => by simp [h]
  refine irsame_nf _ _ _ _ _ _ _ _ _ _ _ _ _ (ifB_intro (fun h => Cl.of (esame_fn a.ev b.ev ha) ⟨_, rfl, ifB_intro (fun h2 => Cl.of (srsame_fn a.s b.s hs hc) ⟨_, rfl, ?_⟩) (fun h2 => no fun e => by subst e; simp at h2)⟩) (fun h => no fun e => by subst e; simp at h))
  have h : a.fr = b.fr ∧ a.sh = b.sh := by simpa using h
  have h2 : a.ev = b.ev := by simpa using h2
  refine congrArg (fun b => [B b]) ?_
  rw [decide_eq_decide]
  cases a; cases b; simp_all

def LiD.short (l : LiD) : Prop := l.ev.length ≤ 300 ∧ (∀ e ∈ l.ev, e.c.size ≤ 100) ∧ l.s.short
instance (l : LiD) : Decidable l.short := inferInstanceAs (Decidable (_ ∧ _ ∧ _))
theorem irshort_fn (l : LiD) (hl : l.ev.length ≤ 9223372036854775807) (hs : l.s.cs.length ≤ 9223372036854775807) : Ct Try.prog 60 {} [l.sv] (fun r => r = [B (decide l.short)]) := by
  have no : ¬ l.short → [B false] = [B (decide l.short)] := fun h => by simp [h]
  refine irshort_nf _ _ _ _ _ _ _ (ifB_intro (fun h => Cl.of (snames_fn l.ev hl) ⟨_, rfl, ifB_intro (fun h2 => Cl.of (sshort_fn l.s hs) ⟨_, rfl, ?_⟩) (fun h2 => no fun p => ?_)⟩) (fun h => no fun p => ?_))
  · have h : l.ev.length ≤ 300 := by simp at h; omega
    have h2 : ∀ e ∈ l.ev, e.c.size ≤ 100 := by simpa using h2
    refine congrArg (fun b => [B b]) ?_
    rw [decide_eq_decide]
    exact ⟨fun k => ⟨h, h2, k⟩, fun k => k.2.2⟩
  · rw [decide_eq_true p.2.1] at h2; cases h2
  · have := p.1; simp at h; omega

def nb : ByteArray := ⟨#[98]⟩
def awA : LiD × Int := apL ⟨[], ⟨[], 0, 0⟩, 0, false⟩ ⟨0, 3, 1, nb, 1, 0, 0⟩
def awB : LiD × Int := apL awA.1 ⟨0, 4, 4, nb, 1, 0, 0⟩
def awD : LiD × Int := drL awB.1 1
def awC : LiD × Int := apL (shutL awB.1) ⟨0, 4, 4, nb, 0, 0, 0⟩
def awH : List EvD := behL awD.1 0

theorem iawake_fn : Ct Try.prog 59 {} [] (fun r => r = [B true]) := by
  refine iawake_nf _ ?_
  refine Cl.of (iappend_fn ⟨[], ⟨[], 0, 0⟩, 0, false⟩ (by decide) (by decide) ⟨0, 3, 1, nb, 1, 0, 0⟩) ⟨_, _, _, _, _, _, _, rfl, ?_⟩
  refine Cl.of (iappend_fn awA.1 (by decide +kernel) (by decide +kernel) ⟨0, 4, 4, nb, 1, 0, 0⟩) ⟨_, _, _, _, _, _, _, rfl, ?_⟩
  refine Cl.of (idrop_fn awB.1 (by decide +kernel) 1 (by decide)) ⟨_, _, _, _, _, _, _, rfl, ?_⟩
  refine Cl.of (ishut_fn awB.1) ⟨_, _, _, _, _, _, rfl, ?_⟩
  refine Cl.of (iappend_fn (shutL awB.1) (by decide +kernel) (by decide +kernel) ⟨0, 4, 4, nb, 0, 0, 0⟩) ⟨_, _, _, _, _, _, _, rfl, ?_⟩
  refine Cl.of (ibehind_fn awD.1 (by decide +kernel) 0) ⟨_, rfl, ?_⟩
  have e1 : awA.2 = 0 := by decide +kernel
  have e2 : awB.2 = 0 := by decide +kernel
  have e3 : awD.2 = 0 := by decide +kernel
  have e4 : awC.2 = 13 := by decide +kernel
  have e5 : awB.1.ev.length = 2 := by decide +kernel
  have e6 : ∃ h : 1 < awB.1.ev.length, awB.1.ev[1].s = 2 := by decide +kernel
  have e7 : awD.1.fr = 1 := by decide +kernel
  have e8 : awH.length = 1 := by decide +kernel
  have e9 : ∃ h : 0 < awH.length, awH[0].x = 1 := by decide +kernel
  have p : awD.1.P := by decide +kernel
  have l5 : awD.1.ev.length ≤ 9223372036854775807 := by decide +kernel
  change ifB (bpick (bpick (bpick (bpick (ieq awA.2 0) (ieq awB.2 0) false) (ieq awD.2 0) false) (ieq awC.2 13) false) (ieq (rlen (eR awB.1.ev)) 2) false) _ _
  rw [e1, e2, e3, e4]
  obtain ⟨h1, e6⟩ := e6
  obtain ⟨h9, e9⟩ := e9
  refine ifB_intro (fun _ => ⟨⟨by decide, by show (1 : Int) < rlen (eR awB.1.ev); simp; omega⟩, _, _, _, _, _, _, _, rget_map EvD.row awB.1.ev 1 h1, ?_⟩) (fun h => by simp [e5] at h)
  change ifB (bpick (bpick (ieq awB.1.ev[1].s 2) (ieq awD.1.fr 1) false) (ieq (rlen (eR awH)) 1) false) _ _
  refine ifB_intro (fun _ => ⟨⟨by decide, by show (0 : Int) < rlen (eR awH); simp; omega⟩, _, _, _, _, _, _, _, rget_map EvD.row awH 0 h9, ?_⟩) (fun h => by simp [e6, e7, e8] at h)
  change ifB (ieq awH[0].x 1) _ _
  refine ifB_intro (fun _ => Cl.of (iright_fn awD.1 l5) ⟨_, rfl, ?_⟩) (fun h => by simp [e9] at h)
  rw [decide_eq_true p]
end Go.Proofs.Ytohmeljljamigaa.Li

namespace Go.Proofs.Ytohmeljljamigaa.Li
open Go Go.Px Go.Proofs Go.Proofs.Ytohmeljljamigaa.Cmp Go.Proofs.Ytohmeljljamigaa.St
set_option maxRecDepth 100000
set_option linter.unusedVariables false

/-- A list that is small. -/
def small (l : LiD) : Prop := l.ev.length ≤ 1000 ∧ lim l.s
theorem small_of {l : LiD} (h : l.short) : small l := ⟨by have := h.1; omega, short_lim h.2.2⟩
theorem small_ap {l : LiD} (h : l.ev.length ≤ 900 ∧ lim l.s) (e : EvD) : small (apL l e).1 := by
  have h' : small l := ⟨by have := h.1; omega, h.2⟩
  unfold apL
  split
  · exact h'
  · split
    · exact h'
    · split
      · exact h'
      · exact ⟨by simp; omega, lim_app h.2 _⟩
theorem small_dr {l : LiD} (h : small l) (n : Int) : small (drL l n).1 := by
  unfold drL
  split
  · exact h
  · split
    · exact ⟨by have := h.1; simp; omega, h.2⟩
    · exact h
theorem same_c {l : LiD} (h : small l) (m : LiD) : Ct Try.prog 65 {} [l.sv, m.sv] (fun r => r = [B (decide (l = m))]) :=
  irsame_fn l m (by have := h.1; omega) (by have := h.2.1; omega) (fun c hc => by have := h.2.2 c hc; omega)

theorem law10_fn (l : LiD) (hl : l.ev.length ≤ 9223372036854775807) (hs : l.s.cs.length ≤ 9223372036854775807) (hf : l.fr ≤ 9223372036854775807) (e : EvD) (n : Int) (hn : -9223372036854775808 ≤ n) :
    Ct Try.prog 10 {} [l.sv, e.sv, I n] (fun r => r = [B true]) := by
  refine law10_nf _ _ _ _ _ _ _ _ _ _ _ _ _ _ _ (Cl.of iawake_fn ⟨_, rfl, ifB_intro (fun h => by simp at h) (fun _ => ?_)⟩)
  refine Cl.of (irshort_fn l hl hs) ⟨_, rfl, ifB_intro (fun _ => rfl) (fun h2 => ?_)⟩
  have h1 : l.short := by simp at h2; exact h2.1
  have sm := small_of h1
  have l300 := h1.1
  have c20 := sm.2.1
  have sa := small_ap (l := l) ⟨by omega, sm.2⟩ e
  have sd := small_dr sm n
  refine Cl.of (iappend_fn l (by omega) (by omega) e) ⟨_, _, _, _, _, _, _, rfl, Cl.of (irappend_fn l (by omega) hf (by omega) e) ⟨_, _, _, _, _, _, _, rfl, ?_⟩⟩
  refine Cl.of (iright_fn l hl) ⟨_, rfl, Cl.of (irright_fn l (by omega) hf) ⟨_, rfl, ifB_intro (fun h => by simp at h) (fun _ => ?_)⟩⟩
  refine Cl.of (same_c sa (apL l e).1) ⟨_, rfl, ifB_intro (fun h => by simp at h) (fun _ => ?_)⟩
  refine Cl.of (idrop_fn l (by omega) n hn) ⟨_, _, _, _, _, _, _, rfl, Cl.of (irdrop_fn l (by omega) hf n) ⟨_, _, _, _, _, _, _, rfl, ifB_intro (fun h => by simp at h) (fun _ => ?_)⟩⟩
  refine Cl.of (same_c sd (drL l n).1) ⟨_, rfl, ifB_intro (fun h => by simp at h) (fun _ => ?_)⟩
  refine Cl.of (ishut_fn l) ⟨_, _, _, _, _, _, rfl, Cl.of (same_c (l := shutL l) sm (shutL l)) ⟨_, rfl, ifB_intro (fun _ => ?_) (fun h => by simp at h)⟩⟩
  refine Cl.of (ibehind_fn l (by omega) n) ⟨_, rfl, Cl.of (irbehind_fn l (by omega) hf n) ⟨_, rfl, Cl.of (esame_fn (behL l n) (behL l n) ?_) ⟨_, rfl, ?_⟩⟩⟩
  · unfold behL
    split
    · simp
    · exact Nat.le_trans (List.length_filter_le _ _) hl
  · simp
end Go.Proofs.Ytohmeljljamigaa.Li

namespace Go.Proofs.Ytohmeljljamigaa.Li
open Go Go.Px Go.Proofs Go.Proofs.Ytohmeljljamigaa.Cmp Go.Proofs.Ytohmeljljamigaa.St
set_option maxRecDepth 100000
set_option linter.unusedVariables false

/-- A list without its first events. -/
def dd (l : LiD) (A : Nat) : LiD := { l with ev := l.ev.drop A, fr := l.fr + A }
theorem dd_zero (l : LiD) : dd l 0 = l := by simp [dd]
theorem dd_dd (l : LiD) (A B : Nat) : dd (dd l A) B = dd l (A + B) := by simp [dd]; omega

theorem dd_P {l : LiD} (p : l.P) {A : Nat} (hA : A ≤ l.ev.length) : (dd l A).P := by
  obtain ⟨⟨p1, p2, p3, p4⟩, p5, p6⟩ := p
  refine ⟨⟨p1, ?_, ?_, ?_⟩, fun i hi => ?_, fun h => ?_⟩
  · show 0 ≤ l.fr + A; omega
  · show l.fr + A ≤ l.s.q; omega
  · show ((l.ev.drop A).length : Int) = l.s.q - (l.fr + A); simp; omega
  · have hi : i < (l.ev.drop A).length := hi
    have hi' : A + i < l.ev.length := by have := hi; simp at this; omega
    obtain ⟨⟨a, b⟩, c⟩ := p5 (A + i) hi'
    have e : ∀ j, ∀ h : j < (l.ev.drop A).length, (l.ev.drop A)[j] = l.ev[A + j]'(by simp at h; omega) := fun j h => List.getElem_drop
    refine ⟨⟨?_, ?_⟩, fun h0 => ?_⟩
    · show chkE ((l.ev.drop A)[i]'hi) = 0
      rw [e]; exact a
    · show ((l.ev.drop A)[i]'hi).s = l.fr + A + 1 + i
      rw [e, b]; omega
    · show ((l.ev.drop A)[i - 1]'(by omega)).a ≤ ((l.ev.drop A)[i]'hi).a
      rw [e, e]
      have := c (by omega)
      have e2 : A + i - 1 = A + (i - 1) := by omega
      simp only [e2] at this
      exact this
  · have hl : 0 < (l.ev.drop A).length := h
    have hl' : 0 < l.ev.length - A := by simpa using hl
    have := p6 (by omega)
    show ((l.ev.drop A)[(l.ev.drop A).length - 1]'(by omega)).a = l.s.t
    rw [List.getElem_drop]
    have e2 : l.ev.length - 1 = A + ((l.ev.drop A).length - 1) := by simp; omega
    simp only [e2] at this
    exact this

theorem dr_dd {l : LiD} (p : l.P) {A : Nat} (hA : A ≤ l.ev.length) : drL l (l.fr + A) = (dd l A, 0) := by
  have h4 := p.1.2.2.2
  unfold drL
  rw [if_neg (by simp [p]; omega)]
  by_cases h : A = 0
  · subst h; rw [if_neg (by simp), dd_zero]
  · rw [if_pos (by omega), show (l.fr + (A : Int) - l.fr).toNat = A by omega]; rfl

theorem ap_ok {l : LiD} {e : EvD} (h : (apL l e).2 = 0) : l.P ∧ (appS l.s (numE e l.s.q)).2 = 0 ∧ l.sh = false ∧ apL l e = (⟨l.ev ++ [numE e l.s.q], (appS l.s (numE e l.s.q)).1, l.fr, l.sh⟩, 0) := by
  unfold apL at h ⊢
  by_cases p : l.P
  case neg => rw [if_pos p] at h; cases h
  rw [if_neg (by simp [p])] at h ⊢
  by_cases h2 : (appS l.s (numE e l.s.q)).2 = 0
  case neg => rw [if_pos h2] at h; exact absurd h h2
  rw [if_neg (by simp [h2])] at h ⊢
  by_cases h3 : l.sh = true
  · rw [if_pos h3] at h; cases h
  · rw [if_neg h3]; exact ⟨p, h2, by simpa using h3, rfl⟩

theorem ap_P {l : LiD} {e : EvD} (h : (apL l e).2 = 0) : (apL l e).1.P := by
  obtain ⟨p, h2, _, ea⟩ := ap_ok h
  obtain ⟨a1, a2, a3⟩ := app_P h2
  obtain ⟨hm, eb⟩ := app_zero h2
  have m := mayS_zero hm
  obtain ⟨⟨p1, p2, p3, p4⟩, p5, p6⟩ := p
  rw [ea]
  have ht : (appS l.s (numE e l.s.q)).1.t = e.a := by rw [eb]; rfl
  refine ⟨⟨a1, p2, ?_, ?_⟩, fun i hi => ?_, fun h => ?_⟩
  · show l.fr ≤ (appS l.s (numE e l.s.q)).1.q; omega
  · show ((l.ev ++ [numE e l.s.q]).length : Int) = (appS l.s (numE e l.s.q)).1.q - l.fr; rw [a2]; simp; omega
  · have hi : i < (l.ev ++ [numE e l.s.q]).length := hi
    have hi2 : i < l.ev.length + 1 := by simpa using hi
    show (chkE ((l.ev ++ [numE e l.s.q])[i]'hi) = 0 ∧ ((l.ev ++ [numE e l.s.q])[i]'hi).s = l.fr + 1 + i) ∧ (0 < i → ((l.ev ++ [numE e l.s.q])[i - 1]'(by omega)).a ≤ ((l.ev ++ [numE e l.s.q])[i]'hi).a)
    by_cases k : i < l.ev.length
    · rw [List.getElem_append_left k]
      obtain ⟨q1, q2⟩ := p5 i k
      refine ⟨q1, fun h0 => ?_⟩
      rw [List.getElem_append_left (by omega)]
      exact q2 h0
    · have : i = l.ev.length := by omega
      subst this
      have e1 : (l.ev ++ [numE e l.s.q])[l.ev.length] = numE e l.s.q := by simp
      rw [e1]
      refine ⟨⟨m.chk, ?_⟩, fun h0 => ?_⟩
      · show l.s.q + 1 = l.fr + 1 + (l.ev.length : Int); omega
      · rw [List.getElem_append_left (by omega), p6 h0]
        exact m.tm
  · show ((l.ev ++ [numE e l.s.q])[(l.ev ++ [numE e l.s.q]).length - 1]'(by simp)).a = (appS l.s (numE e l.s.q)).1.t
    rw [ht]
    simp [numE]

theorem ap_dd {l : LiD} (p : l.P) {A : Nat} (hA : A ≤ l.ev.length) (e : EvD) : (apL (dd l A) e).2 = (apL l e).2 ∧ ((apL l e).2 = 0 → (apL (dd l A) e).1 = dd (apL l e).1 A) := by
  have hp := dd_P p hA
  have e1 : apL l e = if (appS l.s (numE e l.s.q)).2 ≠ 0 then (l, (appS l.s (numE e l.s.q)).2) else if l.sh = true then (l, 13) else (⟨l.ev ++ [numE e l.s.q], (appS l.s (numE e l.s.q)).1, l.fr, l.sh⟩, 0) := by
    unfold apL; rw [if_neg (show ¬ ¬ l.P by simp [p])]
  have e2 : apL (dd l A) e = if (appS l.s (numE e l.s.q)).2 ≠ 0 then (dd l A, (appS l.s (numE e l.s.q)).2) else if l.sh = true then (dd l A, 13) else (⟨l.ev.drop A ++ [numE e l.s.q], (appS l.s (numE e l.s.q)).1, l.fr + A, l.sh⟩, 0) := by
    unfold apL; rw [if_neg (show ¬ ¬ (dd l A).P by simp [hp])]; rfl
  rw [e1, e2]
  by_cases h : (appS l.s (numE e l.s.q)).2 = 0
  · have hn : ¬ (appS l.s (numE e l.s.q)).2 ≠ 0 := by simp [h]
    rw [if_neg hn, if_neg hn]
    by_cases h2 : l.sh = true
    · rw [if_pos h2, if_pos h2]; exact ⟨rfl, fun h0 => by cases h0⟩
    · rw [if_neg h2, if_neg h2]
      exact ⟨rfl, fun _ => by simp [dd, List.drop_append_of_le_length hA]⟩
  · rw [if_pos h, if_pos h]; exact ⟨rfl, fun h0 => absurd h0 h⟩

theorem law11_fn (l : LiD) (hl : l.ev.length ≤ 9223372036854775807) (hs : l.s.cs.length ≤ 9223372036854775807) (a b : Int) (ha : 0 ≤ a ∧ a ≤ 65535) (hb : 0 ≤ b ∧ b ≤ 65535) (e : EvD) :
    Ct Try.prog 11 {} [l.sv, .val (.int .u16 a), .val (.int .u16 b), e.sv] (fun r => r = [B true]) := by
  refine law11_nf _ _ _ _ _ _ _ _ _ _ _ _ _ _ _ _ (Cl.of iawake_fn ⟨_, rfl, ifB_intro (fun h => by simp at h) (fun _ => ?_)⟩)
  refine Cl.of (irshort_fn l hl hs) ⟨_, rfl, ifB_intro (fun _ => rfl) (fun h2 => Cl.of (iright_fn l hl) ⟨_, rfl, ifB_intro (fun _ => rfl) (fun h3 => ?_)⟩)⟩
  have h1 : l.short := by simp at h2; exact h2.1
  have p : l.P := by simpa using h3
  have sm := small_of h1
  have l300 := h1.1
  have c20 := sm.2.1
  have hq := p.1.1.1
  have h4 := p.1.2.2.2
  have hf0 := p.1.2.1
  have W : wadd .i64 (wsub .i64 l.s.q l.fr) 1 = ((l.ev.length + 1 : Nat) : Int) := by
    rw [wsub_i64 (by omega) (by omega), wadd_i64 (by omega) (by omega)]; omega
  rw [W]
  have md : ∀ a : Int, 0 ≤ a → a ≤ 65535 → ∃ A : Nat, A ≤ l.ev.length ∧ wadd .i64 l.fr (wrem (wcv .i64 a) ((l.ev.length + 1 : Nat) : Int)) = l.fr + A := fun a h0 h1 => by
    refine ⟨a.toNat % (l.ev.length + 1), by have := Nat.mod_lt a.toNat (show 0 < l.ev.length + 1 by omega); omega, ?_⟩
    have e1 : wcv .i64 a = a := wrap_i64 (by omega) (by omega)
    have e3 : wrem a ((l.ev.length + 1 : Nat) : Int) = ((a.toNat % (l.ev.length + 1) : Nat) : Int) := by
      unfold wrem
      rw [Int.tmod_eq_emod_of_nonneg h0]
      have e4 : a = (a.toNat : Int) := by omega
      rw [e4]; simp
    have := Nat.mod_lt a.toNat (show 0 < l.ev.length + 1 by omega)
    rw [e1, e3, wadd_i64 (by omega) (by omega)]
  obtain ⟨A, hA, eA⟩ := md a ha.1 ha.2
  obtain ⟨Bn, hB, eB⟩ := md b hb.1 hb.2
  rw [eA, eB]
  have pA := dd_P p hA
  have d1 := dr_dd p hA
  have lA : (dd l A).ev.length = l.ev.length - A := by simp [dd]
  have fA : (dd l A).fr = l.fr + A := rfl
  have d2 : drL (dd l A) (l.fr + Bn) = (dd l (max A Bn), 0) := by
    by_cases h : Bn ≤ A
    · unfold drL
      have e5 : (dd l A).s = l.s := rfl
      rw [if_neg (by simp [pA, e5]; omega), if_neg (by rw [fA]; omega), show max A Bn = A by omega]
    · have := dr_dd pA (A := Bn - A) (by rw [lA]; omega)
      rw [fA, show l.fr + (A : Int) + ((Bn - A : Nat) : Int) = l.fr + Bn by omega, dd_dd] at this
      rw [this, show A + (Bn - A) = max A Bn by omega]
  have d3 : drL l (imax (l.fr + A) (l.fr + Bn)) = (dd l (max A Bn), 0) := by
    have := dr_dd p (A := max A Bn) (by omega)
    rw [← this]
    congr 1
    rw [imax_eq]; omega
  have smA : ∀ k : Nat, small (dd l k) := fun k => ⟨by simp [dd]; omega, sm.2⟩
  have nz : ((l.ev.length + 1 : Nat) : Int) = 0 → False := by omega
  have c1 := idrop_fn l (by omega) (l.fr + A) (by omega)
  rw [d1] at c1
  have c2 := idrop_fn (dd l A) (by rw [lA]; omega) (l.fr + Bn) (by omega)
  rw [d2] at c2
  have c3 := idrop_fn l (by omega) (imax (l.fr + A) (l.fr + Bn)) (by rw [imax_eq]; omega)
  rw [d3] at c3
  refine ⟨nz, nz, Cl.of c1 ⟨_, _, _, _, _, _, _, rfl, Cl.of c2 ⟨_, _, _, _, _, _, _, rfl, Cl.of c3 ⟨_, _, _, _, _, _, _, rfl, ifB_intro (fun h => by simp at h) (fun _ => ?_)⟩⟩⟩⟩
  refine Cl.of (same_c (smA _) (dd l (max A Bn))) ⟨_, rfl, ifB_intro (fun h => by simp at h) (fun _ => ?_)⟩
  have b1 : behL (dd l A) (l.fr + A) = (dd l A).ev := by rw [beh_drop pA, fA]; simp
  have b2 : behL l (l.fr + A) = (dd l A).ev := by rw [beh_drop p, show (l.fr + (A : Int) - l.fr).toNat = A by omega]; rfl
  have k1 := ibehind_fn (dd l A) (by rw [lA]; omega) (l.fr + A)
  rw [b1] at k1
  have k2 := ibehind_fn l (by omega) (l.fr + A)
  rw [b2] at k2
  have ks := esame_fn (dd l A).ev (dd l A).ev (by rw [lA]; omega)
  refine Cl.of k1 ⟨_, rfl, Cl.of ks ⟨_, rfl, ifB_intro (fun h => by simp at h) (fun _ => Cl.of k2 ⟨_, rfl, Cl.of ks ⟨_, rfl, ifB_intro (fun h => by simp at h) (fun _ => ?_)⟩⟩)⟩⟩
  have q1 := iappend_fn l (by omega) (by omega) e
  have q2 := iappend_fn (dd l A) (by rw [lA]; omega) (show l.s.cs.length ≤ 1000000 by omega) e
  obtain ⟨r1, r2⟩ := ap_dd p hA e
  rw [r1] at q2
  refine Cl.of q1 ⟨_, _, _, _, _, _, _, rfl, Cl.of q2 ⟨_, _, _, _, _, _, _, rfl, ifB_intro (fun h => by simp) (fun h => ?_)⟩⟩
  have h0 : (apL l e).2 = 0 := by simpa using h
  obtain ⟨_, _, _, ea⟩ := ap_ok h0
  have pp := ap_P h0
  have sa := small_ap (l := l) ⟨by omega, sm.2⟩ e
  have la : (apL l e).1.ev.length = l.ev.length + 1 := by rw [ea]; simp
  have fa : (apL l e).1.fr = l.fr := by rw [ea]
  have d4 := dr_dd pp (A := A) (by rw [la]; omega)
  rw [fa] at d4
  have c4 := idrop_fn (apL l e).1 (by rw [la]; omega) (l.fr + A) (by omega)
  rw [d4] at c4
  rw [r2 h0]
  have sd : small (dd (apL l e).1 A) := ⟨by have := sa.1; simp [dd]; omega, sa.2⟩
  refine Cl.of c4 ⟨_, _, _, _, _, _, _, rfl, ifB_intro (fun _ => ?_) (fun z => by simp at z)⟩
  refine Cl.of (same_c sd (dd (apL l e).1 A)) ⟨_, rfl, ifB_intro (fun _ => ?_) (fun z => by simp at z)⟩
  refine Cl.of (ssame_fn (apL l e).1.s (apL l e).1.s (by have := sa.2.1; omega) (fun c hc => by have := sa.2.2 c hc; omega)) ⟨_, rfl, ?_⟩
  simp
end Go.Proofs.Ytohmeljljamigaa.Li

namespace Go.Proofs.Ytohmeljljamigaa.Li
open Go Go.Px Go.Proofs Go.Proofs.Ytohmeljljamigaa.Cmp Go.Proofs.Ytohmeljljamigaa.St
set_option maxRecDepth 100000
set_option linter.unusedVariables false

theorem ap_err {l : LiD} {e : EvD} (h : (apL l e).2 ≠ 0) : (apL l e).1 = l := by
  unfold apL at h ⊢
  by_cases p : l.P
  case neg => rw [if_pos p]
  have np : ¬ ¬ l.P := by simp [p]
  rw [if_neg np] at h ⊢
  by_cases h2 : (appS l.s (numE e l.s.q)).2 = 0
  case neg => rw [if_pos h2]
  have nh : ¬ (appS l.s (numE e l.s.q)).2 ≠ 0 := by simp [h2]
  rw [if_neg nh] at h ⊢
  by_cases h3 : l.sh = true
  · rw [if_pos h3]
  · rw [if_neg h3] at h; exact absurd rfl h

/-- A list that began with nothing. -/
structure Beg (l : LiD) : Prop where
  p : l.P
  fr : l.fr = 0
  fo : foldS ⟨[], 0, 0⟩ l.ev = (l.s, l.ev.length, 0)
  lm : lim l.s

theorem beg_ap {l : LiD} (b : Beg l) {e : EvD} (h : (apL l e).2 = 0) : Beg (apL l e).1 ∧ (apL l e).1.ev.length = l.ev.length + 1 := by
  have pp := ap_P h
  obtain ⟨_, h2, _, ea⟩ := ap_ok h
  rw [ea] at pp ⊢
  refine ⟨⟨pp, b.fr, ?_, lim_app b.lm _⟩, by simp⟩
  have A := fold_app l.ev [numE e l.s.q] ⟨[], 0, 0⟩
  rw [b.fo] at A
  obtain ⟨_, g⟩ := A.2 rfl
  show foldS ⟨[], 0, 0⟩ (l.ev ++ [numE e l.s.q]) = _
  rw [g]
  have nh : ¬ (appS l.s (numE e l.s.q)).2 ≠ 0 := by simp [h2]
  simp only [fold_cons, if_neg nh]
  simp [foldS]

theorem law12_fn (o : List EvD) (ho : o.length ≤ 9223372036854775807) (n : Int) (hn : 0 ≤ n ∧ n ≤ 255) : Ct Try.prog 12 {} [SL 7 (eR o), U8 n] (fun r => r = [B true]) := by
  refine law12_nf _ _ _ (Cl.of iawake_fn ⟨_, rfl, ifB_intro (fun h => by simp at h) (fun _ => ifB_intro (fun _ => rfl) (fun h60 => ?_))⟩)
  have h60 : o.length ≤ 60 := by simp at h60; omega
  refine Cl.of (snames_fn o ho) ⟨_, rfl, ifB_intro (fun _ => rfl) (fun _ => ?_)⟩
  refine ⟨fun x ev cs q t fr sh => ∃ (l : LiD) (i : Nat), x = i ∧ i ≤ o.length ∧ ev = eR l.ev ∧ cs = coR l.s.cs ∧ q = l.s.q ∧ t = l.s.t ∧ fr = l.fr ∧ sh = l.sh ∧ Beg l ∧ l.ev.length ≤ i, fun x _ _ _ _ _ _ => o.length - x.toNat, ?_, ?_⟩
  · exact ⟨⟨[], ⟨[], 0, 0⟩, 0, false⟩, 0, rfl, by omega, rfl, rfl, rfl, rfl, rfl, rfl, ⟨by decide +kernel, rfl, rfl, by decide⟩, by simp⟩
  rintro _ _ _ _ _ _ _ ⟨l, i, rfl, hi, rfl, rfl, rfl, rfl, rfl, rfl, bg, hli⟩
  have c20 := bg.lm.1
  have sml : small l := ⟨by omega, bg.lm⟩
  refine ifB_intro (fun hlt => ?_) (fun _ => ?_)
  · have hlt : i < o.length := by simpa using hlt
    have cA := iappend_fn l (by omega) (by omega) o[i]
    have ok := beg_ap (e := o[i]) bg
    have er := ap_err (l := l) (e := o[i])
    refine ⟨fun x ev cs q t fr sh => x = (apL l o[i]).2 ∧ ev = eR (apL l o[i]).1.ev ∧ cs = coR (apL l o[i]).1.s.cs ∧ q = (apL l o[i]).1.s.q ∧ t = (apL l o[i]).1.s.t ∧ fr = (apL l o[i]).1.fr ∧ sh = (apL l o[i]).1.sh, fun _ _ _ _ _ _ _ => 0, ⟨⟨by omega, by simpa using hlt⟩, _, _, _, _, _, _, _, rget_map _ _ _ hlt, Cl.of cA ⟨_, _, _, _, _, _, _, rfl, rfl, rfl, rfl, rfl, rfl, rfl, rfl, rfl⟩, Cl.of cA ⟨_, _, _, _, _, _, _, rfl, rfl, rfl, rfl, rfl, rfl, rfl, rfl, rfl⟩⟩, ?_⟩
    rintro _ _ _ _ _ _ _ ⟨rfl, rfl, rfl, rfl, rfl, rfl, rfl⟩
    generalize apL l o[i] = w at ok er
    obtain ⟨m, c⟩ := w
    dsimp only at ok er ⊢
    have bm : Beg m ∧ (c = 0 ↔ m.ev.length = l.ev.length + 1) ∧ m.ev.length ≤ i + 1 := by
      by_cases h0 : c = 0
      · obtain ⟨b1, b2⟩ := ok h0
        exact ⟨b1, ⟨fun _ => b2, fun _ => h0⟩, by omega⟩
      · rw [er h0]
        exact ⟨bg, ⟨fun h => absurd h h0, fun h => by omega⟩, by omega⟩
    obtain ⟨bm, hc, hml⟩ := bm
    refine ⟨fun b => b = false, fun _ => 0, ?_, ?_⟩
    · refine Cl.of (iright_fn m (by omega)) ⟨_, rfl, ?_⟩
      rw [decide_eq_true bm.p, rlen_eq, rlen_eq, List.length_map, List.length_map, waddN _ (by omega)]
      refine ifB_intro (fun h => ?_) (fun _ => ifB_intro (fun h => ?_) (fun _ => ⟨rfl, rfl⟩))
      · exfalso
        simp at h
        by_cases h0 : c = 0
        · have := hc.1 h0
          simp [h0, this] at h
        · have : ¬ m.ev.length = l.ev.length + 1 := fun k => h0 (hc.2 k)
          simp [h0] at h
          omega
      · have h : c ≠ 0 := by simpa using h
        rw [er h]
        refine Cl.of (same_c sml l) ⟨_, rfl, rfl, ?_⟩
        simp
    · rintro _ rfl
      rw [waddN _ (by omega)]
      exact ifB_intro (fun h => by cases h) (fun _ => ⟨rfl, ⟨m, i + 1, rfl, by omega, rfl, rfl, rfl, rfl, rfl, rfl, bm, hml⟩, stepL (by simp; omega)⟩)
  have p := bg.p
  have h4 := p.1.2.2.2
  have hf := bg.fr
  have hq : l.s.q = (l.ev.length : Int) := by omega
  have cF := sfold_fn ⟨[], 0, 0⟩ ⟨by decide, by decide⟩ l.ev (by omega)
  rw [bg.fo] at cF
  refine Cl.of cF ⟨_, _, _, _, _, rfl, ifB_intro (fun h => by simp at h) (fun _ => ?_)⟩
  have cS := ssame_fn l.s l.s (by omega) (fun c hc => by have := bg.lm.2 c hc; omega)
  refine Cl.of cS ⟨_, rfl, ifB_intro (fun h => by simp [hq] at h) (fun _ => ?_)⟩
  obtain ⟨K, hk, hK⟩ : ∃ K : Nat, wrem (wcv .i64 n) (wadd .i64 l.s.q 1) = (K : Int) ∧ K ≤ l.ev.length := by
    refine ⟨n.toNat % (l.ev.length + 1), ?_, ?_⟩
    · have e1 : wcv .i64 n = n := wrap_i64 (by omega) (by omega)
      rw [e1, hq, waddN _ (by omega)]
      unfold wrem
      rw [Int.tmod_eq_emod_of_nonneg hn.1]
      have e3 : n = (n.toNat : Int) := by omega
      rw [e3]; simp
    · have := Nat.mod_lt n.toNat (show 0 < l.ev.length + 1 by omega); omega
  have hnz : wadd .i64 l.s.q 1 = 0 → False := by rw [hq, waddN _ (by omega)]; omega
  rw [hk]
  have d1 := dr_dd p hK
  rw [hf, Int.zero_add] at d1
  have cD := idrop_fn l (by omega) (K : Int) (by omega)
  rw [d1] at cD
  have pd := dd_P p hK
  have ld : (dd l K).ev = l.ev.drop K := rfl
  have e1 : rsub (eR l.ev) 0 (K : Int) = eR (l.ev.take K) := by rw [rsub_map]; simp
  have e2 : rapp (rapp [] (eR (l.ev.take K))) (eR (dd l K).ev) = eR l.ev := by
    rw [ld]; simp only [rapp, List.nil_append]; rw [← List.map_append, List.take_append_drop]
  refine ⟨hnz, Cl.of cD ⟨_, _, _, _, _, _, _, rfl, ?_⟩⟩
  rw [e1]
  refine ⟨⟨by omega, by omega, by simp; omega⟩, by simp; omega, by simp [rapp, dd]; omega, ifB_intro (fun _ => ?_) (fun h => by simp at h)⟩
  rw [e2]
  refine Cl.of (iright_fn (dd l K) (by rw [ld]; simp; omega)) ⟨_, rfl, ifB_intro (fun _ => ?_) (fun h => ?_)⟩
  rotate_left
  · exfalso
    have e : (dd l K).fr = (K : Int) := by simp [dd, hf]
    rw [decide_eq_true pd, e] at h
    simp at h
  refine Cl.of cS ⟨_, rfl, ifB_intro (fun _ => ?_) (fun h => by simp at h)⟩
  refine Cl.of (esame_fn l.ev l.ev (by omega)) ⟨_, rfl, ?_⟩
  simp
end Go.Proofs.Ytohmeljljamigaa.Li

/- Layer 15: states as plain data. -/
import Derived.Test.YtohmeljljamigaaCmp12
import Derived.Test.YtohmeljljamigaaGen
import Derived.Test.YtohmeljljamigaaStN
import Derived.Test.YtohmeljljamigaaCmp10
import Derived.Test.YtohmeljljamigaaIns2
import Derived.Laws.Externs
import Derived.Test.YtohmeljljamigaaStN2
namespace Go.Proofs.Ytohmeljljamigaa.St
open Go Go.Px Go.Proofs Go.Proofs.Ytohmeljljamigaa.Cmp
set_option maxRecDepth 100000
set_option linter.unusedVariables false

abbrev _root_.Go.Proofs.Ytohmeljljamigaa.Cmp.CoD.row (c : CoD) : List SV := [S c.nm, I c.ro, I c.mo, I c.wd, I c.sl, SL 2 (cR c.cl), I c.h0, I c.h1, I c.h2, I c.h3, I c.h4, I c.h5, I c.h6, I c.h7, I c.h8, I c.hs, I c.rm, I c.ha, I c.c0, I c.c1, I c.c2]
abbrev coR (l : List CoD) : List (List SV) := l.map CoD.row
abbrev _root_.Go.Proofs.Ytohmeljljamigaa.Cmp.EvD.row (e : EvD) : List SV := [I e.s, I e.a, I e.k, S e.c, I e.x, I e.y, I e.z]
abbrev eR (l : List EvD) : List (List SV) := l.map EvD.row
deriving instance DecidableEq for CoD
structure StD where
  cs : List CoD
  q : Int
  t : Int
deriving DecidableEq
abbrev StD.sv (d : StD) : SV := .agg [SL 21 (coR d.cs), I d.q, I d.t]

theorem same_iff {c d : CoD} : sameP c d ↔ c = d := by
  constructor
  · intro h
    cases c; cases d
    simp only [sameP] at h
    simp [h]
  · rintro rfl; exact sameP_refl c

def StD.P (d : StD) : Prop := (d.cs.length ≤ 12 ∧ 0 ≤ d.q ∧ d.q ≤ 4294967296 ∧ 0 ≤ d.t ∧ d.t ≤ 1099511627776) ∧ (∀ c ∈ d.cs, c.P) ∧ srt CoD.nm d.cs
instance (d : StD) : Decidable d.P := inferInstanceAs (Decidable (_ ∧ _))
def StD.short (d : StD) : Prop := (∀ c ∈ d.cs, c.nm.size ≤ 100 ∧ c.cl.length ≤ 40) ∧ d.cs.length ≤ 20
instance (d : StD) : Decidable d.short := inferInstanceAs (Decidable (_ ∧ _))

/-- Whether an event may be applied. -/
def mayS (d : StD) (e : EvD) : Int :=
  if ¬ d.P then 1 else if chkE e ≠ 0 then chkE e else if e.s ≠ d.q + 1 then 1 else if e.a < d.t then 5
  else if e.k = 1 then (if fAt CoD.nm d.cs e.c ≠ -1 then 7 else if d.cs.length = 12 then 9 else 0)
  else if fAt CoD.nm d.cs e.c = -1 then 6 else mayI (d.cs.getD (fAt CoD.nm d.cs e.c).toNat co0) e
def nxtS (d : StD) (e : EvD) : CoD := if e.k = 1 then (newC e.c e.x e.a).1 else tellC (d.cs.getD (fAt CoD.nm d.cs e.c).toNat co0) e
def appS (d : StD) (e : EvD) : StD × Int := if mayS d e ≠ 0 then (d, mayS d e) else (⟨withB CoD.nm d.cs (nxtS d e), e.s, e.a⟩, 0)
def foldS (d : StD) : List EvD → StD × Nat × Int
  | [] => (d, 0, 0)
  | e :: l => if (appS d e).2 ≠ 0 then (d, 0, (appS d e).2) else ((foldS (appS d e).1 l).1, (foldS (appS d e).1 l).2.1 + 1, (foldS (appS d e).1 l).2.2)

theorem adj_srtC {l : List CoD} (h : ∀ i : Nat, ∀ hi : i < l.length, 0 < i → nlt (l[i - 1]'(by omega)).nm l[i].nm) : srt CoD.nm l :=
  srt_adj fun i hi => h (i + 1) hi (by omega)

end Go.Proofs.Ytohmeljljamigaa.St

namespace Go.Proofs.Ytohmeljljamigaa.St
open Go Go.Px Go.Proofs Go.Proofs.Ytohmeljljamigaa.Cmp
set_option maxRecDepth 100000
set_option linter.unusedVariables false

theorem sshort_fn (d : StD) (hl : d.cs.length ≤ 9223372036854775807) : Ct Try.prog 43 {} [d.sv] (fun r => r = [B (decide d.short)]) := by
  refine sshort_nf _ _ _ _ ⟨fun _ x => ∃ i : Nat, x = i ∧ i ≤ d.cs.length ∧ ∀ j : Nat, ∀ hj : j < d.cs.length, j < i → d.cs[j].nm.size ≤ 100 ∧ d.cs[j].cl.length ≤ 40, fun _ x => d.cs.length - x.toNat, ⟨0, rfl, by omega, fun j _ hj => by omega⟩, ?_⟩
  rintro b _ ⟨i, rfl, hi, hall⟩
  refine ifB_intro (fun h => ?_) (fun h => ?_)
  · have h : i < d.cs.length := by simpa using h
    rw [waddN _ (by omega)]
    refine ⟨⟨by omega, by simpa using h⟩, _, _, _, _, _, _, _, _, _, _, _, _, _, _, _, _, _, _, _, _, _, rget_map _ _ _ h, Cl.of (qshort_fn d.cs[i]) ⟨_, rfl, ifB_intro (fun z => ?_) (fun z => ⟨rfl, ⟨i + 1, rfl, by omega, fun j hj hjk => ?_⟩, stepL (by simp; omega)⟩)⟩⟩
    · have : ¬ d.short := fun p => by
        have := p.1 _ (List.getElem_mem h)
        rw [decide_eq_true this] at z; cases z
      simp [this]
    · by_cases e : j = i
      · subst e; simpa using z
      · exact hall j hj (by omega)
  · have h : ¬ i < d.cs.length := by simpa using h
    have : d.short ↔ d.cs.length ≤ 20 := ⟨fun p => p.2, fun p => ⟨fun c hc => by
      obtain ⟨j, hj, rfl⟩ := List.mem_iff_getElem.1 hc
      exact hall j hj (by omega), p⟩⟩
    simp [this]
    omega

theorem snames_fn (l : List EvD) (hl : l.length ≤ 9223372036854775807) : Ct Try.prog 44 {} [SL 7 (eR l)] (fun r => r = [B (decide (∀ e ∈ l, e.c.size ≤ 100))]) := by
  refine snames_nf _ _ ⟨fun _ x => ∃ i : Nat, x = i ∧ i ≤ l.length ∧ ∀ j : Nat, ∀ hj : j < l.length, j < i → l[j].c.size ≤ 100, fun _ x => l.length - x.toNat, ⟨0, rfl, by omega, fun j _ hj => by omega⟩, ?_⟩
  rintro b _ ⟨i, rfl, hi, hall⟩
  refine ifB_intro (fun h => ?_) (fun h => ?_)
  · have h : i < l.length := by simpa using h
    rw [waddN _ (by omega)]
    refine ⟨⟨by omega, by simpa using h⟩, _, _, _, _, _, _, _, rget_map _ _ _ h, ifB_intro (fun z => ?_) (fun z => ⟨rfl, ⟨i + 1, rfl, by omega, fun j hj hjk => ?_⟩, stepL (by simp; omega)⟩)⟩
    · have z : 100 < l[i].c.size := by simp at z; omega
      have : ¬ ∀ e ∈ l, e.c.size ≤ 100 := fun q => by have := q _ (List.getElem_mem h); omega
      simp [this]
    · by_cases e : j = i
      · subst e; simp at z; omega
      · exact hall j hj (by omega)
  · have h : ¬ i < l.length := by simpa using h
    have : ∀ e ∈ l, e.c.size ≤ 100 := fun c hc => by
      obtain ⟨j, hj, rfl⟩ := List.mem_iff_getElem.1 hc
      exact hall j hj (by omega)
    rw [decide_eq_true this]

theorem sright_fn (d : StD) : Ct Try.prog 45 {} [d.sv] (fun r => r = [B (decide d.P)]) := by
  have no : ¬ d.P → [B false] = [B (decide d.P)] := fun h => by simp [h]
  refine sright_nf _ _ _ _ (ifB_intro (fun h1 => no (fun p => ?_)) (fun h1 => ?_))
  · have := p.1; simp at h1; omega
  · simp at h1
    have hl : d.cs.length ≤ 12 := by omega
    refine ⟨fun _ y => ∃ i : Nat, y = i ∧ i ≤ d.cs.length ∧ ∀ j : Nat, ∀ hj : j < d.cs.length, j < i → d.cs[j].P ∧ (0 < j → nlt (d.cs[j - 1]'(by omega)).nm d.cs[j].nm), fun _ y => d.cs.length - y.toNat, ⟨0, rfl, by omega, fun j _ hj => by omega⟩, ?_⟩
    rintro b _ ⟨i, rfl, hi, hall⟩
    refine ifB_intro (fun h2 => ?_) (fun h2 => ?_)
    · have h2 : i < d.cs.length := by simpa using h2
      have st : Nat.le (Nat.succ (d.cs.length - ((i + 1 : Nat) : Int).toNat)) (d.cs.length - ((i : Nat) : Int).toNat) := stepL (by simp; omega)
      have nxt : d.cs[i].P → (0 < i → nlt (d.cs[i - 1]'(by omega)).nm d.cs[i].nm) → ∃ k : Nat, ((i + 1 : Nat) : Int) = k ∧ k ≤ d.cs.length ∧ ∀ j : Nat, ∀ hj : j < d.cs.length, j < k → d.cs[j].P ∧ (0 < j → nlt (d.cs[j - 1]'(by omega)).nm d.cs[j].nm) := fun a b =>
        ⟨i + 1, rfl, by omega, fun j hj hjk => by
          by_cases e : j = i
          · subst e; exact ⟨a, b⟩
          · exact hall j hj (by omega)⟩
      rw [waddN _ (by omega)]
      refine ⟨⟨by omega, by simpa using h2⟩, _, _, _, _, _, _, _, _, _, _, _, _, _, _, _, _, _, _, _, _, _, rget_map _ _ _ h2, Cl.of (pright_fn d.cs[i]) ⟨_, rfl, ifB_intro (fun h3 => no (fun p => ?_)) (fun h3 => ?_)⟩⟩
      · rw [decide_eq_true (p.2.1 _ (List.getElem_mem h2))] at h3; cases h3
      · have h3 : d.cs[i].P := by simpa using h3
        refine ifB_intro (fun h4 => ?_) (fun h4 => ?_)
        · have h4 : 0 < i := by simpa using h4
          have w : wsub .i64 (i : Int) 1 = ((i - 1 : Nat) : Int) := by rw [wsub_i64 (by omega) (by omega)]; omega
          rw [w]
          have hi1 : i - 1 < d.cs.length := by omega
          refine ⟨⟨by omega, by simp; omega⟩, _, _, _, _, _, _, _, _, _, _, _, _, _, _, _, _, _, _, _, _, _, rget_map _ _ _ hi1, ?_⟩
          rw [sge_d]
          refine ifB_intro (fun h5 => no (fun p => ?_)) (fun h5 => ⟨rfl, nxt h3 (fun _ => ?_), st⟩)
          · simp at h5
            exact h5 (srt_get p.2.2 (by omega) h2)
          · simp at h5; exact h5
        · simp at h4
          exact ⟨rfl, nxt h3 (fun _ => by omega), st⟩
    · have h2 : ¬ i < d.cs.length := by simpa using h2
      have hs : srt CoD.nm d.cs := adj_srtC fun j hj => (hall j hj (by omega)).2
      have hn : ∀ f ∈ d.cs, f.P := fun f hf => by
        obtain ⟨j, hj, rfl⟩ := List.mem_iff_getElem.1 hf
        exact (hall j hj (by omega)).1
      rw [decide_eq_true (show d.P from ⟨⟨hl, by omega, by omega, by omega, by omega⟩, hn, hs⟩)]

theorem srright_fn (d : StD) : Ct Try.prog 46 {} [d.sv] (fun r => r = [B (decide d.P)]) := by
  have no : ¬ d.P → [B false] = [B (decide d.P)] := fun h => by simp [h]
  refine srright_nf _ _ _ _ (ifB_intro (fun h1 => no (fun p => ?_)) (fun h1 => ?_))
  · have := p.1; simp at h1; omega
  · simp at h1
    have hl : d.cs.length ≤ 12 := by omega
    refine ⟨fun _ y => ∃ i : Nat, y = i ∧ i ≤ d.cs.length ∧ ∀ j : Nat, ∀ hj : j < d.cs.length, j < i → d.cs[j].P ∧ (0 < j → nlt (d.cs[j - 1]'(by omega)).nm d.cs[j].nm), fun _ y => d.cs.length - y.toNat, ⟨0, rfl, by omega, fun j _ hj => by omega⟩, ?_⟩
    rintro b _ ⟨i, rfl, hi, hall⟩
    refine ifB_intro (fun h2 => ?_) (fun h2 => ?_)
    · have h2 : i < d.cs.length := by simpa using h2
      have st : Nat.le (Nat.succ (d.cs.length - ((i + 1 : Nat) : Int).toNat)) (d.cs.length - ((i : Nat) : Int).toNat) := stepL (by simp; omega)
      have nxt : d.cs[i].P → (0 < i → nlt (d.cs[i - 1]'(by omega)).nm d.cs[i].nm) → ∃ k : Nat, ((i + 1 : Nat) : Int) = k ∧ k ≤ d.cs.length ∧ ∀ j : Nat, ∀ hj : j < d.cs.length, j < k → d.cs[j].P ∧ (0 < j → nlt (d.cs[j - 1]'(by omega)).nm d.cs[j].nm) := fun a b =>
        ⟨i + 1, rfl, by omega, fun j hj hjk => by
          by_cases e : j = i
          · subst e; exact ⟨a, b⟩
          · exact hall j hj (by omega)⟩
      rw [waddN _ (by omega)]
      have hr : (0 : Int) ≤ (i : Nat) ∧ ((i : Nat) : Int) < rlen (coR d.cs) := ⟨by omega, by simpa using h2⟩
      refine ⟨hr, _, _, _, _, _, _, _, _, _, _, _, _, _, _, _, _, _, _, _, _, _, rget_map _ _ _ h2, Cl.of (qright_fn d.cs[i]) ⟨_, rfl, ifB_intro (fun h3 => no (fun p => ?_)) (fun h3 => ?_)⟩⟩
      · rw [decide_eq_true (p.2.1 _ (List.getElem_mem h2))] at h3; cases h3
      · have h3 : d.cs[i].P := by simpa using h3
        refine ifB_intro (fun h4 => ?_) (fun h4 => ?_)
        · have h4 : 0 < i := by simpa using h4
          have w : wsub .i64 (i : Int) 1 = ((i - 1 : Nat) : Int) := by rw [wsub_i64 (by omega) (by omega)]; omega
          rw [w]
          have hi1 : i - 1 < d.cs.length := by omega
          refine ⟨hr, _, _, _, _, _, _, _, _, _, _, _, _, _, _, _, _, _, _, _, _, _, rget_map _ _ _ h2, ⟨by omega, by simp; omega⟩, _, _, _, _, _, _, _, _, _, _, _, _, _, _, _, _, _, _, _, _, _, rget_map _ _ _ hi1, ?_⟩
          rw [sle_d]
          refine ifB_intro (fun h5 => no (fun p => ?_)) (fun h5 => ⟨rfl, nxt h3 (fun _ => ?_), st⟩)
          · simp at h5
            exact h5 (srt_get p.2.2 (by omega) h2)
          · simp at h5; exact h5
        · simp at h4
          exact ⟨rfl, nxt h3 (fun _ => by omega), st⟩
    · have h2 : ¬ i < d.cs.length := by simpa using h2
      have hs : srt CoD.nm d.cs := adj_srtC fun j hj => (hall j hj (by omega)).2
      have hn : ∀ f ∈ d.cs, f.P := fun f hf => by
        obtain ⟨j, hj, rfl⟩ := List.mem_iff_getElem.1 hf
        exact (hall j hj (by omega)).1
      rw [decide_eq_true (show d.P from ⟨⟨hl, by omega, by omega, by omega, by omega⟩, hn, hs⟩)]

theorem fnd_of {l : List CoD} {s : ByteArray} {i : Nat} (hi : i < l.length) (e : l[i].nm = s) (h : ∀ j (hj : j < i), (l[j]'(by omega)).nm ≠ s) : fAt CoD.nm l s = i := by
  unfold fAt; rw [fnd_some.2 ⟨hi, e, h⟩]

theorem sfind1_fn (c : CoD) (s : ByteArray) : Ct Try.prog 106 {} [c.sv, .ref 0 [S s]] (fun r => r = [B (decide (c.nm = s))]) := by
  refine sfind1_nf _ _ _ _ _ _ _ _ _ _ _ _ _ _ _ _ _ _ _ _ _ _ _ ?_
  rw [seq_d]

theorem sfind_fn (d : StD) (hl : d.cs.length ≤ 9223372036854775807) (s : ByteArray) : Ct Try.prog 47 {} [d.sv, S s] (fun r => r = [I (fAt CoD.nm d.cs s)]) := by
  have A : Ct Try.prog 105 {} [SL 21 (coR d.cs), .clo 106 [.ref 0 [S s]]] (fun r => r = [I (fAt CoD.nm d.cs s)]) := by
    refine sindex_nf _ _ _ _ ⟨fun _ x => ∃ i : Nat, x = i ∧ i ≤ d.cs.length ∧ ∀ j : Nat, ∀ hj : j < d.cs.length, j < i → d.cs[j].nm ≠ s, fun _ x => d.cs.length - x.toNat, ⟨0, rfl, by omega, fun j _ hj => by omega⟩, ?_⟩
    rintro b _ ⟨i, rfl, hi, hall⟩
    refine ifB_intro (fun h => ?_) (fun h => ?_)
    · have h : i < d.cs.length := by simpa using h
      refine ⟨⟨by omega, by simpa using h⟩, _, _, _, _, _, _, _, _, _, _, _, _, _, _, _, _, _, _, _, _, _, rget_map _ _ _ h, Cl.of (sfind1_fn d.cs[i] s) ⟨_, rfl, ?_⟩⟩
      rw [waddN _ (by omega)]
      refine ifB_intro (fun z => ?_) (fun z => ⟨rfl, ⟨i + 1, rfl, by omega, fun j hj hjk => ?_⟩, stepL (by simp; omega)⟩)
      · rw [fnd_of h (by simpa using z) (fun j hj => hall j (by omega) hj)]
      · by_cases e : j = i
        · subst e; simpa using z
        · exact hall j hj (by omega)
    · have h : ¬ i < d.cs.length := by simpa using h
      rw [fAt_none.2 (fun f hf => by
        obtain ⟨j, hj, rfl⟩ := List.mem_iff_getElem.1 hf
        exact hall j hj (by omega))]
  exact sfind_nf _ _ _ _ _ (Cl.of A ⟨_, rfl, rfl⟩)

theorem srfind_fn (d : StD) (hl : d.cs.length ≤ 9223372036854775807) (s : ByteArray) : Ct Try.prog 48 {} [d.sv, S s] (fun r => r = [I (fAt CoD.nm d.cs s)]) := by
  refine srfind_nf _ _ _ _ _ ⟨fun _ x => ∃ i : Nat, x = i ∧ i ≤ d.cs.length ∧ ∀ j : Nat, ∀ hj : j < d.cs.length, j < i → d.cs[j].nm ≠ s, fun _ x => d.cs.length - x.toNat, ⟨0, rfl, by omega, fun j _ hj => by omega⟩, ?_⟩
  rintro b _ ⟨i, rfl, hi, hall⟩
  refine ifB_intro (fun h => ?_) (fun h => ?_)
  · have h : i < d.cs.length := by simpa using h
    refine ⟨⟨by omega, by simpa using h⟩, _, _, _, _, _, _, _, _, _, _, _, _, _, _, _, _, _, _, _, _, _, rget_map _ _ _ h, ?_⟩
    rw [waddN _ (by omega), seq_d]
    refine ifB_intro (fun z => ?_) (fun z => ⟨rfl, ⟨i + 1, rfl, by omega, fun j hj hjk => ?_⟩, stepL (by simp; omega)⟩)
    · rw [fnd_of h (by simpa using z) (fun j hj => hall j (by omega) hj)]
    · by_cases e : j = i
      · subst e; simpa using z
      · exact hall j hj (by omega)
  · have h : ¬ i < d.cs.length := by simpa using h
    rw [fAt_none.2 (fun f hf => by
      obtain ⟨j, hj, rfl⟩ := List.mem_iff_getElem.1 hf
      exact hall j hj (by omega))]

/-- Cells that are few. -/
def cells40 (d : StD) : Prop := ∀ c ∈ d.cs, c.cl.length ≤ 1000000

theorem sequal_fn (a b : List CoD) (ha : a.length ≤ 9223372036854775807) (hc : ∀ c ∈ a, c.cl.length ≤ 1000000) : Ct Try.prog 107 {} [SL 21 (coR a), SL 21 (coR b), .clo 56 []] (fun r => r = [B (decide (a = b))]) := by
  have no : ¬ a = b → [B false] = [B (decide (a = b))] := fun h => by simp [h]
  refine sequal_nf _ _ _ _ _ (ifB_intro (fun h => no (fun e => by subst e; simp at h)) (fun h => ?_))
  have hlen : a.length = b.length := by simp at h; omega
  refine ⟨fun _ x => ∃ i : Nat, x = i ∧ i ≤ a.length ∧ ∀ j : Nat, ∀ hj : j < a.length, j < i → a[j] = b[j]'(by omega), fun _ x => a.length - x.toNat, ⟨0, rfl, by omega, fun j _ hj => by omega⟩, ?_⟩
  rintro _ _ ⟨i, rfl, hi, hall⟩
  refine ifB_intro (fun h => ?_) (fun h => ?_)
  · have h : i < a.length := by simpa using h
    have h' : i < b.length := by omega
    rw [waddN _ (by omega)]
    refine ⟨⟨by omega, by simpa using h⟩, _, _, _, _, _, _, _, _, _, _, _, _, _, _, _, _, _, _, _, _, _, rget_map _ _ _ h, ⟨by omega, by simpa using h'⟩, _, _, _, _, _, _, _, _, _, _, _, _, _, _, _, _, _, _, _, _, _, rget_map _ _ _ h', Cl.of (psame_fn a[i] b[i] (hc _ (List.getElem_mem h))) ⟨_, rfl, ifB_intro (fun z => no (fun e => ?_)) (fun z => ⟨rfl, ⟨i + 1, rfl, by omega, fun j hj hjk => ?_⟩, stepL (by simp; omega)⟩)⟩⟩
    · have : sameP a[i] b[i] := same_iff.2 (by subst e; rfl)
      rw [decide_eq_true this] at z; cases z
    · by_cases e : j = i
      · subst e; exact same_iff.1 (by simpa using z)
      · exact hall j hj (by omega)
  · have h : ¬ i < a.length := by simpa using h
    rw [decide_eq_true (List.ext_getElem hlen fun j h1 h2 => hall j h1 (by omega))]

theorem ssame_fn (a b : StD) (ha : a.cs.length ≤ 9223372036854775807) (hc : ∀ c ∈ a.cs, c.cl.length ≤ 1000000) : Ct Try.prog 49 {} [a.sv, b.sv] (fun r => r = [B (decide (a = b))]) := by
  refine ssame_nf _ _ _ _ _ _ _ (ifB_intro (fun h => Cl.of (sequal_fn a.cs b.cs ha hc) ⟨_, rfl, ?_⟩) (fun h => ?_))
  · have h : a.q = b.q ∧ a.t = b.t := by simpa using h
    refine congrArg (fun b => [B b]) ?_
    rw [decide_eq_decide]
    cases a; cases b; simp_all
  · have : ¬ a = b := fun e => by subst e; simp at h
    simp [this]

theorem srsame_fn (a b : StD) (ha : a.cs.length ≤ 9223372036854775807) (hc : ∀ c ∈ a.cs, c.cl.length ≤ 1000000) : Ct Try.prog 50 {} [a.sv, b.sv] (fun r => r = [B (decide (a = b))]) := by
  have no : ¬ a = b → [B false] = [B (decide (a = b))] := fun h => by simp [h]
  refine srsame_nf _ _ _ _ _ _ _ (ifB_intro (fun h => no (fun e => by subst e; simp at h)) (fun h => ?_))
  have h0 : (a.q = b.q ∧ a.t = b.t) ∧ a.cs.length = b.cs.length := by simp at h; omega
  have hlen := h0.2
  refine ⟨fun _ x => ∃ i : Nat, x = i ∧ i ≤ a.cs.length ∧ ∀ j : Nat, ∀ hj : j < a.cs.length, j < i → a.cs[j] = b.cs[j]'(by omega), fun _ x => a.cs.length - x.toNat, ⟨0, rfl, by omega, fun j _ hj => by omega⟩, ?_⟩
  rintro _ _ ⟨i, rfl, hi, hall⟩
  refine ifB_intro (fun h => ?_) (fun h => ?_)
  · have h : i < a.cs.length := by simpa using h
    have h' : i < b.cs.length := by omega
    rw [waddN _ (by omega)]
    refine ⟨⟨by omega, by simpa using h⟩, _, _, _, _, _, _, _, _, _, _, _, _, _, _, _, _, _, _, _, _, _, rget_map _ _ _ h, ⟨by omega, by simpa using h'⟩, _, _, _, _, _, _, _, _, _, _, _, _, _, _, _, _, _, _, _, _, _, rget_map _ _ _ h', Cl.of (qsame_fn a.cs[i] b.cs[i] (hc _ (List.getElem_mem h))) ⟨_, rfl, ifB_intro (fun z => no (fun e => ?_)) (fun z => ⟨rfl, ⟨i + 1, rfl, by omega, fun j hj hjk => ?_⟩, stepL (by simp; omega)⟩)⟩⟩
    · have : sameP a.cs[i] b.cs[i] := same_iff.2 (by subst e; rfl)
      rw [decide_eq_true this] at z; cases z
    · by_cases e : j = i
      · subst e; exact same_iff.1 (by simpa using z)
      · exact hall j hj (by omega)
  · have h : ¬ i < a.cs.length := by simpa using h
    have := List.ext_getElem hlen fun j h1 h2 => hall j h1 (by omega)
    rw [decide_eq_true]
    cases a; cases b; simp_all
end Go.Proofs.Ytohmeljljamigaa.St

namespace Go.Proofs.Ytohmeljljamigaa.St
open Go Go.Px Go.Proofs Go.Proofs.Ytohmeljljamigaa.Cmp
set_option maxRecDepth 100000
set_option linter.unusedVariables false

theorem ovl_comp : fovl Try.prog 160 62 := by
  refine ⟨#[4], fun x y w => ?_⟩
  rw [run_callFunc_extern Try.func160 (by kernel_rfl) (by kernel_rfl) (by kernel_rfl) (e := Extern.SlicesOverlaps.overlaps #[62, 62] #[4]) (by kernel_rfl)]

theorem sclone_fn (l : List CoD) (h : l.length ≤ 2147483648) : Ct Try.prog 109 ⟨[], [.own]⟩ [SL 21 (coR l)] (fun r => r = [SL 21 (coR l)]) := by
  refine sclone_nf _ _ (fun b hb => ifB_intro (fun e => ?_) (fun e => ⟨by simp; omega, by simp [rapp]⟩))
  have := hb e
  have : l = [] := by
    have h2 : (coR l).length = 0 := by simp only [rlen_eq] at this; omega
    rw [List.length_map] at h2
    exact List.eq_nil_of_length_eq_zero h2
  rw [this]; rfl

theorem snan_fn (s : ByteArray) : Ct Try.prog 159 {} [S s] (fun r => r = [B false]) := by
  refine snan_nf _ _ ?_
  simp
theorem scompare_fn (s t : ByteArray) : Ct Try.prog 112 {} [S s, S t] (fun r => r = [I (if nlt s t then -1 else if nlt t s then 1 else 0)]) := by
  refine scompare_nf _ _ _ (Cl.of (snan_fn s) ⟨_, rfl, Cl.of (snan_fn t) ⟨_, rfl, ?_⟩⟩)
  show ifB (slt s t) _ _
  rw [slt_d, sgt_d]
  exact ifB_d (fun h => by rw [if_pos h]) (fun h => ifB_d (fun k => by rw [if_neg h, if_pos k]) (fun k => by rw [if_neg h, if_neg k]))
theorem sapp1_fn (c : CoD) (s : ByteArray) : Ct Try.prog 111 {} [c.sv, S s] (fun r => r = [I (if nlt c.nm s then -1 else if nlt s c.nm then 1 else 0)]) :=
  sapp1_nf _ _ _ _ _ _ _ _ _ _ _ _ _ _ _ _ _ _ _ _ _ _ _ (Cl.of (scompare_fn _ _) ⟨_, rfl, rfl⟩)

theorem halfS {i j : Nat} (h : i + j ≤ 9223372036854775807) : wcv .i64 (wshr .u64 (wcv .u64 (wadd .i64 (i : Int) (j : Int))) 1) = (((i + j) / 2 : Nat) : Int) := by
  rw [waddNN _ _ h]
  have e1 : wcv .u64 ((i + j : Nat) : Int) = ((i + j : Nat) : Int) := by
    simp only [wcv, IntKind.wrap, IntKind.signed, IntKind.bits]; simp; omega
  rw [e1]
  have e2 : wshr .u64 ((i + j : Nat) : Int) 1 = (((i + j) / 2 : Nat) : Int) := by
    simp only [wshr, IntKind.bits]
    simp
    rw [Int.fdiv_eq_ediv_of_nonneg _ (by omega)]
  rw [e2]
  unfold wcv
  exact wrap_i64 (by omega) (by omega)

theorem sbin_fn (l : List CoD) (hs : srt CoD.nm l) (hl : l.length ≤ 1000000) (s : ByteArray) : Ct Try.prog 110 {} [SL 21 (coR l), S s, .clo 111 []] (fun r => ∃ b : Bool, r = [I ((ahd CoD.nm l s).length : Nat), B b]) := by
  refine sbin_nf _ _ _ _ _ ⟨fun x y => ∃ i j : Nat, x = i ∧ y = j ∧ i ≤ (ahd CoD.nm l s).length ∧ (ahd CoD.nm l s).length ≤ j ∧ j ≤ l.length, fun x y => y.toNat - x.toNat, ⟨0, l.length, rfl, by simp, by omega, ahd_len, by omega⟩, ?_⟩
  rintro _ _ ⟨i, j, rfl, rfl, h1, h2, h3⟩
  refine ifB_intro (fun h => ?_) (fun h => ?_)
  · simp at h
    rw [halfS (by omega)]
    have hm : (i + j) / 2 < l.length := by omega
    refine ⟨by omega, ⟨by omega, by simp; omega⟩, _, _, _, _, _, _, _, _, _, _, _, _, _, _, _, _, _, _, _, _, _, rget_map _ _ _ hm, Cl.of (sapp1_fn _ s) ⟨_, rfl, ifB_intro (fun h4 => ⟨rfl, ?_, ?_⟩) (fun h4 => ⟨rfl, ⟨i, (i + j) / 2, rfl, rfl, h1, ?_, by omega⟩, stepL (by simp; omega)⟩)⟩⟩
    · rw [waddN _ (by omega)]
      refine ⟨(i + j) / 2 + 1, j, rfl, rfl, ?_, h2, h3⟩
      have : nlt l[(i + j) / 2].nm s := by
        refine Decidable.byContradiction fun hn => ?_
        rw [if_neg hn] at h4
        split at h4 <;> simp at h4
      have := (ahd_iff (s := s) hs hm).2 this
      omega
    · rw [waddN _ (by omega)]
      exact stepL (by simp; omega)
    · have hn : ¬ nlt l[(i + j) / 2].nm s := fun hn => by rw [if_pos hn] at h4; simp at h4
      have : ¬ ((i + j) / 2 < (ahd CoD.nm l s).length) := fun k => hn ((ahd_iff (s := s) hs hm).1 k)
      omega
  · simp at h
    have e : i = (ahd CoD.nm l s).length := by omega
    refine ifB_intro (fun h4 => ?_) (fun h4 => ⟨_, by rw [← e]⟩)
    have h4 : i < l.length := by simpa using h4
    exact ⟨⟨by omega, by simpa using h4⟩, _, _, _, _, _, _, _, _, _, _, _, _, _, _, _, _, _, _, _, _, _, rget_map _ _ _ h4, Cl.of (sapp1_fn _ s) ⟨_, rfl, _, by rw [← e]⟩⟩

theorem getD_at {l : List CoD} {i : Nat} (h : i < l.length) : l.getD ((i : Nat) : Int).toNat co0 = l[i] := by simp [h]

theorem smay_fn (d : StD) (hl : d.cs.length ≤ 1000000) (e : EvD) : Ct Try.prog 53 {} [d.sv, e.sv] (fun r => r = [I (mayS d e)]) := by
  refine smay_nf _ _ _ _ _ _ _ _ _ _ _ (Cl.of (sright_fn d) ⟨_, rfl, ifB_intro (fun h => ?_) (fun h => ?_)⟩)
  · have h : ¬ d.P := by simpa using h
    unfold mayS; rw [if_pos h]
  have hp : d.P := by simpa using h
  refine Cl.of (check_fn e.s e.a e.k e.c e.x e.y e.z) ⟨_, rfl, ifB_intro (fun h => ?_) (fun h => ?_)⟩
  · have h : chkE e ≠ 0 := by simpa [chkE] using h
    unfold mayS; rw [if_neg (by simp [hp]), if_pos h]; rfl
  have hc : chkE e = 0 := by simpa [chkE] using h
  have hq := hp.1.2.2.1
  have hq0 := hp.1.2.1
  have w : wadd .i64 d.q 1 = d.q + 1 := wadd_i64 (by omega) (by omega)
  unfold mayS
  rw [if_neg (by simp [hp]), if_neg (by simp [hc])]
  refine Cl.of (sfind_fn d (by omega) e.c) ⟨_, rfl, ?_⟩
  rw [w]
  refine ifB_intro (fun h => ?_) (fun h => ?_)
  · rw [if_pos (by simpa using h)]
  rw [if_neg (by simpa using h)]
  refine ifB_intro (fun h => ?_) (fun h => ?_)
  · rw [if_pos (by simpa using h)]
  rw [if_neg (by simpa using h)]
  refine ifB_intro (fun h => ?_) (fun h1 => ?_)
  · have h : e.k = 1 ∧ ¬ fAt CoD.nm d.cs e.c = -1 := by simpa using h
    rw [if_pos h.1, if_pos h.2]
  refine ifB_intro (fun h => ?_) (fun h2 => ?_)
  · have h : e.k = 1 ∧ d.cs.length = 12 := by simp at h; omega
    have h1 : e.k = 1 → fAt CoD.nm d.cs e.c = -1 := by simpa using h1
    rw [if_pos h.1, if_neg (by simp [h1 h.1]), if_pos h.2]
  refine ifB_intro (fun h => ?_) (fun h3 => ?_)
  · have h : e.k = 1 := by simpa using h
    have h1 : e.k = 1 → fAt CoD.nm d.cs e.c = -1 := by simpa using h1
    have h2 : e.k = 1 → ¬ d.cs.length = 12 := by simp at h2; omega
    rw [if_pos h, if_neg (by simp [h1 h]), if_neg (h2 h)]
  have h3 : ¬ e.k = 1 := by simpa using h3
  rw [if_neg h3]
  refine ifB_intro (fun h => ?_) (fun h4 => ?_)
  · rw [if_pos (by simpa using h)]
  have h4 : ¬ fAt CoD.nm d.cs e.c = -1 := by simpa using h4
  rw [if_neg h4]
  rcases fAt_cases (nm := CoD.nm) (l := d.cs) (s := e.c) with h | ⟨i, hi, h5, _, _⟩
  · exact absurd h h4
  rw [h5, getD_at hi]
  exact ⟨⟨by omega, by simpa using hi⟩, _, _, _, _, _, _, _, _, _, _, _, _, _, _, _, _, _, _, _, _, _, rget_map _ _ _ hi, Cl.of (pmay_fn d.cs[i] e) ⟨_, rfl, rfl⟩⟩

theorem srmay_fn (d : StD) (hl : d.cs.length ≤ 1000000) (e : EvD) : Ct Try.prog 114 {} [d.sv, e.sv] (fun r => r = [I (mayS d e)]) := by
  refine srmay_nf _ _ _ _ _ _ _ _ _ _ _ (Cl.of (srright_fn d) ⟨_, rfl, ifB_intro (fun h => ?_) (fun h => ?_)⟩)
  · have h : ¬ d.P := by simpa using h
    unfold mayS; rw [if_pos h]
  have hp : d.P := by simpa using h
  refine Cl.of (rcheck_fn e.s e.a e.k e.c e.x e.y e.z) ⟨_, rfl, ifB_intro (fun h => ?_) (fun h => ?_)⟩
  · have h : chkE e ≠ 0 := by simpa [chkE] using h
    unfold mayS; rw [if_neg (by simp [hp]), if_pos h]; rfl
  have hc : chkE e = 0 := by simpa [chkE] using h
  have hes := (chkE_zero hc).2.2.2.2
  have hq := hp.1.2.2.1
  have hl12 := hp.1.1
  have w : wsub .i64 e.s 1 = e.s - 1 := wsub_i64 (by omega) (by omega)
  unfold mayS
  rw [if_neg (by simp [hp]), if_neg (by simp [hc]), w]
  refine ifB_intro (fun h => ?_) (fun h => ?_)
  · rw [if_pos (by simp at h; omega)]
  rw [if_neg (by simp at h; omega)]
  refine ifB_intro (fun h => ?_) (fun h => ?_)
  · rw [if_pos (by simpa using h)]
  rw [if_neg (by simpa using h)]
  refine Cl.of (srfind_fn d (by omega) e.c) ⟨_, rfl, ?_⟩
  refine ifB_intro (fun h => ?_) (fun h => ?_)
  · rw [if_pos (by simpa using h)]
    rcases fAt_cases (nm := CoD.nm) (l := d.cs) (s := e.c) with h5 | ⟨i, hi, h5, _, _⟩
    · rw [h5]
      refine ifB_intro (fun k => by simp at k) (fun _ => ?_)
      rw [if_neg (by simp)]
      refine ifB_intro (fun k => ?_) (fun k => ?_)
      · rw [if_pos (by simp at k; omega)]
      · rw [if_neg (by simp at k; omega)]
    · rw [h5]
      refine ifB_intro (fun _ => ?_) (fun k => by simp at k)
      rw [if_pos (by omega)]
  have h3 : ¬ e.k = 1 := by simpa using h
  rw [if_neg h3]
  rcases fAt_cases (nm := CoD.nm) (l := d.cs) (s := e.c) with h5 | ⟨i, hi, h5, _, _⟩
  · rw [h5]
    refine ifB_intro (fun _ => ?_) (fun k => by simp at k)
    rw [if_pos rfl]
  · rw [h5]
    refine ifB_intro (fun k => by simp at k; omega) (fun _ => ?_)
    rw [if_neg (by omega), getD_at hi]
    exact ⟨⟨by omega, by simpa using hi⟩, _, _, _, _, _, _, _, _, _, _, _, _, _, _, _, _, _, _, _, _, _, rget_map _ _ _ hi, Cl.of (qmay_fn d.cs[i] e) ⟨_, rfl, rfl⟩⟩

/-- What an event needs that may be applied. -/
structure MayS (d : StD) (e : EvD) : Prop where
  p : d.P
  chk : chkE e = 0
  sq : e.s = d.q + 1
  tm : d.t ≤ e.a
  new : e.k = 1 → fAt CoD.nm d.cs e.c = -1 ∧ d.cs.length < 12
  old : e.k ≠ 1 → ∃ i : Nat, ∃ h : i < d.cs.length, fAt CoD.nm d.cs e.c = i ∧ d.cs[i].nm = e.c ∧ mayI d.cs[i] e = 0
theorem mayS_zero {d : StD} {e : EvD} (h : mayS d e = 0) : MayS d e := by
  unfold mayS at h
  by_cases hp : d.P
  case neg => rw [if_pos hp] at h; cases h
  rw [if_neg (by simp [hp])] at h
  by_cases hc : chkE e = 0
  case neg => rw [if_pos hc] at h; exact absurd h hc
  rw [if_neg (by simp [hc])] at h
  by_cases hs : e.s = d.q + 1
  case neg => rw [if_pos hs] at h; cases h
  rw [if_neg (by simp [hs])] at h
  by_cases ht : e.a < d.t
  · rw [if_pos ht] at h; cases h
  rw [if_neg ht] at h
  refine ⟨hp, hc, hs, by omega, fun hk => ?_, fun hk => ?_⟩
  · rw [if_pos hk] at h
    have hl := hp.1.1
    by_cases hf : fAt CoD.nm d.cs e.c = -1
    case neg => rw [if_pos hf] at h; cases h
    rw [if_neg (by simp [hf])] at h
    by_cases h12 : d.cs.length = 12
    · rw [if_pos h12] at h; cases h
    · exact ⟨hf, by omega⟩
  · rw [if_neg hk] at h
    rcases fAt_cases (nm := CoD.nm) (l := d.cs) (s := e.c) with h5 | ⟨i, hi, h5, h6, _⟩
    · rw [if_pos h5] at h; cases h
    · rw [if_neg (by omega), h5, getD_at hi] at h
      exact ⟨i, hi, h5, h6, h⟩

/-- A component that is registered. -/
theorem new_ok {d : StD} {e : EvD} (m : MayS d e) (hk : e.k = 1) : (newC e.c e.x e.a).2 = 0 ∧ (newC e.c e.x e.a).1.nm = e.c := by
  obtain ⟨_, hn, hv, ht, _⟩ := chkE_zero m.chk
  have hb : namB e.c = true := by unfold namB; rw [decide_eq_true hn]
  have l1 : lo1 e.k = 1 := by simp [lo1, hk]
  have l2 : hi1 e.k = 3 := by simp [hi1, hk]
  unfold newC
  rw [if_neg (by simp [hb]), if_neg (by omega), if_neg (by simp [ht])]
  split <;> exact ⟨rfl, rfl⟩

theorem nxt_nm {d : StD} {e : EvD} (m : MayS d e) : (nxtS d e).nm = e.c := by
  unfold nxtS
  by_cases hk : e.k = 1
  · rw [if_pos hk]; exact (new_ok m hk).2
  · rw [if_neg hk]
    obtain ⟨i, hi, h1, h2, _⟩ := m.old hk
    rw [h1, getD_at hi, (tell_nm _ _).1, h2]

theorem sapply_fn (d : StD) (hl : d.cs.length ≤ 1000000) (e : EvD) : Ct Try.prog 51 {} [d.sv, e.sv] (fun r => r = [(appS d e).1.sv, I (appS d e).2]) := by
  refine sapply_nf _ _ _ _ _ _ _ _ _ _ _ (Cl.of (smay_fn d hl e) ⟨_, rfl, ifB_intro (fun h => ?_) (fun h => ?_)⟩)
  · have h : mayS d e ≠ 0 := by simpa using h
    unfold appS; rw [if_pos h]
  have h : mayS d e = 0 := by simpa using h
  have m := mayS_zero h
  have ea : appS d e = (⟨withB CoD.nm d.cs (nxtS d e), e.s, e.a⟩, 0) := by unfold appS; rw [if_neg (by simp [h])]
  rw [ea]
  refine Cl.of (sclone_fn d.cs (by omega)) ⟨_, rfl, ifB_intro (fun hk => ?_) (fun hk => ?_)⟩
  · have hk : e.k = 1 := by simpa using hk
    obtain ⟨n1, n2⟩ := new_ok m hk
    have hn := (m.new hk).1
    have hno : ∀ g ∈ d.cs, g.nm ≠ e.c := fAt_none.1 hn
    refine Cl.of (pnew_fn e.c e.x e.a) ⟨_, _, _, _, _, _, _, _, _, _, _, _, _, _, _, _, _, _, _, _, _, _, rfl, ifB_intro (fun z => by simp [n1] at z) (fun _ => Cl.ofQ (sbin_fn d.cs m.p.2.2 hl e.c) ?_)⟩
    rintro _ ⟨b, rfl⟩
    refine ⟨_, _, rfl, Cl.of (Ins.cinsert_fn (coR d.cs) (ahd CoD.nm d.cs e.c).length (newC e.c e.x e.a).1.row (by simpa using ahd_len) (by simpa using hl) ovl_comp) ⟨_, rfl, ?_⟩⟩
    have : withB CoD.nm d.cs (nxtS d e) = d.cs.take (ahd CoD.nm d.cs e.c).length ++ (newC e.c e.x e.a).1 :: d.cs.drop (ahd CoD.nm d.cs e.c).length := by
      unfold nxtS; rw [if_pos hk, withB_new (by rw [n2]; exact hno), insB_at, n2]
    rw [this]
    simp [List.map_take, List.map_drop]
  · have hk : ¬ e.k = 1 := by simpa using hk
    obtain ⟨i, hi, h1, h2, h3⟩ := m.old hk
    have hr : (0 : Int) ≤ (i : Nat) ∧ ((i : Nat) : Int) < rlen (coR d.cs) := ⟨by omega, by simpa using hi⟩
    have et : tellR d.cs[i] e = [(tellC d.cs[i] e).sv, I 0] := by unfold tellR; rw [if_pos h3]
    have ct := ptell_fn d.cs[i] e
    rw [et] at ct
    have es : rset (coR d.cs) (i : Nat) (tellC d.cs[i] e).row = coR (withB CoD.nm d.cs (nxtS d e)) := by
      have : nxtS d e = tellC d.cs[i] e := by unfold nxtS; rw [if_neg hk, h1, getD_at hi]
      rw [rset_map, set_withB m.p.2.2 hi (tell_nm _ _).1, this]
    refine Cl.of (sfind_fn d (by omega) e.c) ⟨_, rfl, ?_⟩
    rw [h1]
    have k : Cl Try.prog 58 sP [d.cs[i].sv, e.sv] (fun rs => ∃ s2 x22 x23 x24 x25 l2 x26 x27 x28 x29 x30 x31 x32 x33 x34 x35 x36 x37 x38 x39 x40 x41, (rs = [.agg [S s2, I x22, I x23, I x24, I x25, SL 2 l2, I x26, I x27, I x28, I x29, I x30, I x31, I x32, I x33, I x34, I x35, I x36, I x37, I x38, I x39, I x40], I x41]) ∧ ifB (ine x41 0) ([d.sv, I x41] = [StD.sv ⟨withB CoD.nm d.cs (nxtS d e), e.s, e.a⟩, I 0]) (((0 : Int) ≤ (i : Nat) ∧ ((i : Nat) : Int) < rlen (coR d.cs)) ∧ ((0 : Int) ≤ (i : Nat) ∧ ((i : Nat) : Int) < rlen (coR d.cs)) ∧ [.agg [SL 21 (rset (coR d.cs) (i : Nat) [S s2, I x22, I x23, I x24, I x25, SL 2 l2, I x26, I x27, I x28, I x29, I x30, I x31, I x32, I x33, I x34, I x35, I x36, I x37, I x38, I x39, I x40]), I e.s, I e.a], I 0] = [StD.sv ⟨withB CoD.nm d.cs (nxtS d e), e.s, e.a⟩, I 0])) := by
      refine Cl.of ct ⟨_, _, _, _, _, _, _, _, _, _, _, _, _, _, _, _, _, _, _, _, _, _, rfl, ifB_intro (fun z => by simp at z) (fun _ => ⟨hr, hr, ?_⟩)⟩
      exact congrArg (fun z => [SV.agg [SL 21 z, I e.s, I e.a], I 0]) es
    exact ⟨hr, hr, _, _, _, _, _, _, _, _, _, _, _, _, _, _, _, _, _, _, _, _, _, rget_map _ _ _ hi, k, k⟩
end Go.Proofs.Ytohmeljljamigaa.St

namespace Go.Proofs.Ytohmeljljamigaa.St
open Go Go.Px Go.Proofs Go.Proofs.Ytohmeljljamigaa.Cmp
set_option maxRecDepth 100000
set_option linter.unusedVariables false

theorem ins_snoc {l : List CoD} {f g : CoD} (hs : srt CoD.nm l) (h : ¬ nlt g.nm f.nm) : insB CoD.nm (l ++ [g]) f = insB CoD.nm l f ++ [g] := by
  have e := ahd_bhd (nm := CoD.nm) l f.nm
  have h2 : insB CoD.nm (ahd CoD.nm l f.nm ++ (bhd CoD.nm l f.nm ++ [g])) f = ahd CoD.nm l f.nm ++ f :: (bhd CoD.nm l f.nm ++ [g]) :=
    insB_app (fun x hx => mem_ahd hx) (fun x hx => by
      rcases List.mem_append.1 hx with hx | hx
      · exact mem_bhd hs hx
      · simp at hx; rw [hx]; exact h)
  rw [← List.append_assoc, e] at h2
  rw [h2]
  simp [insB]

theorem loop_ok (cs : List CoD) (hs : srt CoD.nm cs) (hl : cs.length ≤ 1000000) (c : CoD) (es ea ek ex ey ez dq dt : Int) (ec : ByteArray) (Q : List SV → Prop) (hQ : Q [.agg [SL 21 (coR (withB CoD.nm cs c)), I es, I ea], I 0]) : ∃ Inv : Bool → Int → (List (List SV)) → Int → Int → Prop, ∃ m : Bool → Int → (List (List SV)) → Int → Int → Nat, (Inv false 0 [] es ea) ∧ (∀ b : Bool, ∀ x22 : Int, ∀ l1 : List (List SV), ∀ x23 : Int, ∀ x24 : Int, (Inv b x22 l1 x23 x24) → ifB (ilt x22 (rlen (coR cs))) (ifB (bnot b) ((((0 : Int) ≤ x22) ∧ (x22 < (rlen (coR cs)))) ∧ (∃ s2 : ByteArray, ∃ x25 : Int, ∃ x26 : Int, ∃ x27 : Int, ∃ x28 : Int, ∃ l2 : List (List SV), ∃ x29 : Int, ∃ x30 : Int, ∃ x31 : Int, ∃ x32 : Int, ∃ x33 : Int, ∃ x34 : Int, ∃ x35 : Int, ∃ x36 : Int, ∃ x37 : Int, ∃ x38 : Int, ∃ x39 : Int, ∃ x40 : Int, ∃ x41 : Int, ∃ x42 : Int, ∃ x43 : Int, (rget (coR cs) x22 = [S s2, I x25, I x26, I x27, I x28, SL 2 l2, I x29, I x30, I x31, I x32, I x33, I x34, I x35, I x36, I x37, I x38, I x39, I x40, I x41, I x42, I x43]) ∧ (ifB (sge s2 c.nm) (((lsum (rlen l1) (rlen ([[S c.nm, I c.ro, I c.mo, I c.wd, I c.sl, SL 2 (cR c.cl), I c.h0, I c.h1, I c.h2, I c.h3, I c.h4, I c.h5, I c.h6, I c.h7, I c.h8, I c.hs, I c.rm, I c.ha, I c.c0, I c.c1, I c.c2]]))) ≤ ((2147483648 : Int))) ∧ ((((0 : Int) ≤ x22) ∧ (x22 < (rlen (coR cs)))) ∧ (∃ s3 : ByteArray, ∃ x44 : Int, ∃ x45 : Int, ∃ x46 : Int, ∃ x47 : Int, ∃ l3 : List (List SV), ∃ x48 : Int, ∃ x49 : Int, ∃ x50 : Int, ∃ x51 : Int, ∃ x52 : Int, ∃ x53 : Int, ∃ x54 : Int, ∃ x55 : Int, ∃ x56 : Int, ∃ x57 : Int, ∃ x58 : Int, ∃ x59 : Int, ∃ x60 : Int, ∃ x61 : Int, ∃ x62 : Int, (rget (coR cs) x22 = [S s3, I x44, I x45, I x46, I x47, SL 2 l3, I x48, I x49, I x50, I x51, I x52, I x53, I x54, I x55, I x56, I x57, I x58, I x59, I x60, I x61, I x62]) ∧ (ifB (sne s3 c.nm) ((((0 : Int) ≤ x22) ∧ (x22 < (rlen (coR cs)))) ∧ (∃ s4 : ByteArray, ∃ x63 : Int, ∃ x64 : Int, ∃ x65 : Int, ∃ x66 : Int, ∃ l4 : List (List SV), ∃ x67 : Int, ∃ x68 : Int, ∃ x69 : Int, ∃ x70 : Int, ∃ x71 : Int, ∃ x72 : Int, ∃ x73 : Int, ∃ x74 : Int, ∃ x75 : Int, ∃ x76 : Int, ∃ x77 : Int, ∃ x78 : Int, ∃ x79 : Int, ∃ x80 : Int, ∃ x81 : Int, (rget (coR cs) x22 = [S s4, I x63, I x64, I x65, I x66, SL 2 l4, I x67, I x68, I x69, I x70, I x71, I x72, I x73, I x74, I x75, I x76, I x77, I x78, I x79, I x80, I x81]) ∧ (((lsum (rlen (rapp l1 ([[S c.nm, I c.ro, I c.mo, I c.wd, I c.sl, SL 2 (cR c.cl), I c.h0, I c.h1, I c.h2, I c.h3, I c.h4, I c.h5, I c.h6, I c.h7, I c.h8, I c.hs, I c.rm, I c.ha, I c.c0, I c.c1, I c.c2]]))) (rlen ([[S s4, I x63, I x64, I x65, I x66, SL 2 l4, I x67, I x68, I x69, I x70, I x71, I x72, I x73, I x74, I x75, I x76, I x77, I x78, I x79, I x80, I x81]]))) ≤ ((2147483648 : Int))) ∧ ((Option.some ([[S c.nm, I c.ro, I c.mo, I c.wd, I c.sl, SL 2 (cR c.cl), I c.h0, I c.h1, I c.h2, I c.h3, I c.h4, I c.h5, I c.h6, I c.h7, I c.h8, I c.hs, I c.rm, I c.ha, I c.c0, I c.c1, I c.c2], [SV.slice 21 [] 1, I ((0 : Int)), I ((0 : Int))], [I es, I ea, I ek, S ec, I ex, I ey, I ez], [SL 21 (coR cs), I dq, I dt]]) = Option.some ([[S c.nm, I c.ro, I c.mo, I c.wd, I c.sl, SL 2 (cR c.cl), I c.h0, I c.h1, I c.h2, I c.h3, I c.h4, I c.h5, I c.h6, I c.h7, I c.h8, I c.hs, I c.rm, I c.ha, I c.c0, I c.c1, I c.c2], [SV.slice 21 [] 1, I ((0 : Int)), I ((0 : Int))], [I es, I ea, I ek, S ec, I ex, I ey, I ez], [SL 21 (coR cs), I dq, I dt]])) ∧ ((Inv true (wadd IntKind.i64 x22 1) (rapp (rapp l1 ([[S c.nm, I c.ro, I c.mo, I c.wd, I c.sl, SL 2 (cR c.cl), I c.h0, I c.h1, I c.h2, I c.h3, I c.h4, I c.h5, I c.h6, I c.h7, I c.h8, I c.hs, I c.rm, I c.ha, I c.c0, I c.c1, I c.c2]])) ([[S s4, I x63, I x64, I x65, I x66, SL 2 l4, I x67, I x68, I x69, I x70, I x71, I x72, I x73, I x74, I x75, I x76, I x77, I x78, I x79, I x80, I x81]])) x23 x24) ∧ (Nat.le (Nat.succ (m true (wadd IntKind.i64 x22 1) (rapp (rapp l1 ([[S c.nm, I c.ro, I c.mo, I c.wd, I c.sl, SL 2 (cR c.cl), I c.h0, I c.h1, I c.h2, I c.h3, I c.h4, I c.h5, I c.h6, I c.h7, I c.h8, I c.hs, I c.rm, I c.ha, I c.c0, I c.c1, I c.c2]])) ([[S s4, I x63, I x64, I x65, I x66, SL 2 l4, I x67, I x68, I x69, I x70, I x71, I x72, I x73, I x74, I x75, I x76, I x77, I x78, I x79, I x80, I x81]])) x23 x24)) (m b x22 l1 x23 x24))))))) ((Option.some ([[S c.nm, I c.ro, I c.mo, I c.wd, I c.sl, SL 2 (cR c.cl), I c.h0, I c.h1, I c.h2, I c.h3, I c.h4, I c.h5, I c.h6, I c.h7, I c.h8, I c.hs, I c.rm, I c.ha, I c.c0, I c.c1, I c.c2], [SV.slice 21 [] 1, I ((0 : Int)), I ((0 : Int))], [I es, I ea, I ek, S ec, I ex, I ey, I ez], [SL 21 (coR cs), I dq, I dt]]) = Option.some ([[S c.nm, I c.ro, I c.mo, I c.wd, I c.sl, SL 2 (cR c.cl), I c.h0, I c.h1, I c.h2, I c.h3, I c.h4, I c.h5, I c.h6, I c.h7, I c.h8, I c.hs, I c.rm, I c.ha, I c.c0, I c.c1, I c.c2], [SV.slice 21 [] 1, I ((0 : Int)), I ((0 : Int))], [I es, I ea, I ek, S ec, I ex, I ey, I ez], [SL 21 (coR cs), I dq, I dt]])) ∧ ((Inv true (wadd IntKind.i64 x22 1) (rapp l1 ([[S c.nm, I c.ro, I c.mo, I c.wd, I c.sl, SL 2 (cR c.cl), I c.h0, I c.h1, I c.h2, I c.h3, I c.h4, I c.h5, I c.h6, I c.h7, I c.h8, I c.hs, I c.rm, I c.ha, I c.c0, I c.c1, I c.c2]])) x23 x24) ∧ (Nat.le (Nat.succ (m true (wadd IntKind.i64 x22 1) (rapp l1 ([[S c.nm, I c.ro, I c.mo, I c.wd, I c.sl, SL 2 (cR c.cl), I c.h0, I c.h1, I c.h2, I c.h3, I c.h4, I c.h5, I c.h6, I c.h7, I c.h8, I c.hs, I c.rm, I c.ha, I c.c0, I c.c1, I c.c2]])) x23 x24)) (m b x22 l1 x23 x24)))))))) ((((0 : Int) ≤ x22) ∧ (x22 < (rlen (coR cs)))) ∧ (∃ s3 : ByteArray, ∃ x44 : Int, ∃ x45 : Int, ∃ x46 : Int, ∃ x47 : Int, ∃ l3 : List (List SV), ∃ x48 : Int, ∃ x49 : Int, ∃ x50 : Int, ∃ x51 : Int, ∃ x52 : Int, ∃ x53 : Int, ∃ x54 : Int, ∃ x55 : Int, ∃ x56 : Int, ∃ x57 : Int, ∃ x58 : Int, ∃ x59 : Int, ∃ x60 : Int, ∃ x61 : Int, ∃ x62 : Int, (rget (coR cs) x22 = [S s3, I x44, I x45, I x46, I x47, SL 2 l3, I x48, I x49, I x50, I x51, I x52, I x53, I x54, I x55, I x56, I x57, I x58, I x59, I x60, I x61, I x62]) ∧ (ifB (sne s3 c.nm) ((((0 : Int) ≤ x22) ∧ (x22 < (rlen (coR cs)))) ∧ (∃ s4 : ByteArray, ∃ x63 : Int, ∃ x64 : Int, ∃ x65 : Int, ∃ x66 : Int, ∃ l4 : List (List SV), ∃ x67 : Int, ∃ x68 : Int, ∃ x69 : Int, ∃ x70 : Int, ∃ x71 : Int, ∃ x72 : Int, ∃ x73 : Int, ∃ x74 : Int, ∃ x75 : Int, ∃ x76 : Int, ∃ x77 : Int, ∃ x78 : Int, ∃ x79 : Int, ∃ x80 : Int, ∃ x81 : Int, (rget (coR cs) x22 = [S s4, I x63, I x64, I x65, I x66, SL 2 l4, I x67, I x68, I x69, I x70, I x71, I x72, I x73, I x74, I x75, I x76, I x77, I x78, I x79, I x80, I x81]) ∧ (((lsum (rlen l1) (rlen ([[S s4, I x63, I x64, I x65, I x66, SL 2 l4, I x67, I x68, I x69, I x70, I x71, I x72, I x73, I x74, I x75, I x76, I x77, I x78, I x79, I x80, I x81]]))) ≤ ((2147483648 : Int))) ∧ ((Option.some ([[S c.nm, I c.ro, I c.mo, I c.wd, I c.sl, SL 2 (cR c.cl), I c.h0, I c.h1, I c.h2, I c.h3, I c.h4, I c.h5, I c.h6, I c.h7, I c.h8, I c.hs, I c.rm, I c.ha, I c.c0, I c.c1, I c.c2], [SV.slice 21 [] 1, I ((0 : Int)), I ((0 : Int))], [I es, I ea, I ek, S ec, I ex, I ey, I ez], [SL 21 (coR cs), I dq, I dt]]) = Option.some ([[S c.nm, I c.ro, I c.mo, I c.wd, I c.sl, SL 2 (cR c.cl), I c.h0, I c.h1, I c.h2, I c.h3, I c.h4, I c.h5, I c.h6, I c.h7, I c.h8, I c.hs, I c.rm, I c.ha, I c.c0, I c.c1, I c.c2], [SV.slice 21 [] 1, I ((0 : Int)), I ((0 : Int))], [I es, I ea, I ek, S ec, I ex, I ey, I ez], [SL 21 (coR cs), I dq, I dt]])) ∧ ((Inv b (wadd IntKind.i64 x22 1) (rapp l1 ([[S s4, I x63, I x64, I x65, I x66, SL 2 l4, I x67, I x68, I x69, I x70, I x71, I x72, I x73, I x74, I x75, I x76, I x77, I x78, I x79, I x80, I x81]])) x23 x24) ∧ (Nat.le (Nat.succ (m b (wadd IntKind.i64 x22 1) (rapp l1 ([[S s4, I x63, I x64, I x65, I x66, SL 2 l4, I x67, I x68, I x69, I x70, I x71, I x72, I x73, I x74, I x75, I x76, I x77, I x78, I x79, I x80, I x81]])) x23 x24)) (m b x22 l1 x23 x24))))))) ((Option.some ([[S c.nm, I c.ro, I c.mo, I c.wd, I c.sl, SL 2 (cR c.cl), I c.h0, I c.h1, I c.h2, I c.h3, I c.h4, I c.h5, I c.h6, I c.h7, I c.h8, I c.hs, I c.rm, I c.ha, I c.c0, I c.c1, I c.c2], [SV.slice 21 [] 1, I ((0 : Int)), I ((0 : Int))], [I es, I ea, I ek, S ec, I ex, I ey, I ez], [SL 21 (coR cs), I dq, I dt]]) = Option.some ([[S c.nm, I c.ro, I c.mo, I c.wd, I c.sl, SL 2 (cR c.cl), I c.h0, I c.h1, I c.h2, I c.h3, I c.h4, I c.h5, I c.h6, I c.h7, I c.h8, I c.hs, I c.rm, I c.ha, I c.c0, I c.c1, I c.c2], [SV.slice 21 [] 1, I ((0 : Int)), I ((0 : Int))], [I es, I ea, I ek, S ec, I ex, I ey, I ez], [SL 21 (coR cs), I dq, I dt]])) ∧ ((Inv b (wadd IntKind.i64 x22 1) l1 x23 x24) ∧ (Nat.le (Nat.succ (m b (wadd IntKind.i64 x22 1) l1 x23 x24)) (m b x22 l1 x23 x24)))))))))) ((((0 : Int) ≤ x22) ∧ (x22 < (rlen (coR cs)))) ∧ (∃ s2 : ByteArray, ∃ x25 : Int, ∃ x26 : Int, ∃ x27 : Int, ∃ x28 : Int, ∃ l2 : List (List SV), ∃ x29 : Int, ∃ x30 : Int, ∃ x31 : Int, ∃ x32 : Int, ∃ x33 : Int, ∃ x34 : Int, ∃ x35 : Int, ∃ x36 : Int, ∃ x37 : Int, ∃ x38 : Int, ∃ x39 : Int, ∃ x40 : Int, ∃ x41 : Int, ∃ x42 : Int, ∃ x43 : Int, (rget (coR cs) x22 = [S s2, I x25, I x26, I x27, I x28, SL 2 l2, I x29, I x30, I x31, I x32, I x33, I x34, I x35, I x36, I x37, I x38, I x39, I x40, I x41, I x42, I x43]) ∧ (ifB (sne s2 c.nm) ((((0 : Int) ≤ x22) ∧ (x22 < (rlen (coR cs)))) ∧ (∃ s3 : ByteArray, ∃ x44 : Int, ∃ x45 : Int, ∃ x46 : Int, ∃ x47 : Int, ∃ l3 : List (List SV), ∃ x48 : Int, ∃ x49 : Int, ∃ x50 : Int, ∃ x51 : Int, ∃ x52 : Int, ∃ x53 : Int, ∃ x54 : Int, ∃ x55 : Int, ∃ x56 : Int, ∃ x57 : Int, ∃ x58 : Int, ∃ x59 : Int, ∃ x60 : Int, ∃ x61 : Int, ∃ x62 : Int, (rget (coR cs) x22 = [S s3, I x44, I x45, I x46, I x47, SL 2 l3, I x48, I x49, I x50, I x51, I x52, I x53, I x54, I x55, I x56, I x57, I x58, I x59, I x60, I x61, I x62]) ∧ (((lsum (rlen l1) (rlen ([[S s3, I x44, I x45, I x46, I x47, SL 2 l3, I x48, I x49, I x50, I x51, I x52, I x53, I x54, I x55, I x56, I x57, I x58, I x59, I x60, I x61, I x62]]))) ≤ ((2147483648 : Int))) ∧ ((Option.some ([[S c.nm, I c.ro, I c.mo, I c.wd, I c.sl, SL 2 (cR c.cl), I c.h0, I c.h1, I c.h2, I c.h3, I c.h4, I c.h5, I c.h6, I c.h7, I c.h8, I c.hs, I c.rm, I c.ha, I c.c0, I c.c1, I c.c2], [SV.slice 21 [] 1, I ((0 : Int)), I ((0 : Int))], [I es, I ea, I ek, S ec, I ex, I ey, I ez], [SL 21 (coR cs), I dq, I dt]]) = Option.some ([[S c.nm, I c.ro, I c.mo, I c.wd, I c.sl, SL 2 (cR c.cl), I c.h0, I c.h1, I c.h2, I c.h3, I c.h4, I c.h5, I c.h6, I c.h7, I c.h8, I c.hs, I c.rm, I c.ha, I c.c0, I c.c1, I c.c2], [SV.slice 21 [] 1, I ((0 : Int)), I ((0 : Int))], [I es, I ea, I ek, S ec, I ex, I ey, I ez], [SL 21 (coR cs), I dq, I dt]])) ∧ ((Inv b (wadd IntKind.i64 x22 1) (rapp l1 ([[S s3, I x44, I x45, I x46, I x47, SL 2 l3, I x48, I x49, I x50, I x51, I x52, I x53, I x54, I x55, I x56, I x57, I x58, I x59, I x60, I x61, I x62]])) x23 x24) ∧ (Nat.le (Nat.succ (m b (wadd IntKind.i64 x22 1) (rapp l1 ([[S s3, I x44, I x45, I x46, I x47, SL 2 l3, I x48, I x49, I x50, I x51, I x52, I x53, I x54, I x55, I x56, I x57, I x58, I x59, I x60, I x61, I x62]])) x23 x24)) (m b x22 l1 x23 x24))))))) ((Option.some ([[S c.nm, I c.ro, I c.mo, I c.wd, I c.sl, SL 2 (cR c.cl), I c.h0, I c.h1, I c.h2, I c.h3, I c.h4, I c.h5, I c.h6, I c.h7, I c.h8, I c.hs, I c.rm, I c.ha, I c.c0, I c.c1, I c.c2], [SV.slice 21 [] 1, I ((0 : Int)), I ((0 : Int))], [I es, I ea, I ek, S ec, I ex, I ey, I ez], [SL 21 (coR cs), I dq, I dt]]) = Option.some ([[S c.nm, I c.ro, I c.mo, I c.wd, I c.sl, SL 2 (cR c.cl), I c.h0, I c.h1, I c.h2, I c.h3, I c.h4, I c.h5, I c.h6, I c.h7, I c.h8, I c.hs, I c.rm, I c.ha, I c.c0, I c.c1, I c.c2], [SV.slice 21 [] 1, I ((0 : Int)), I ((0 : Int))], [I es, I ea, I ek, S ec, I ex, I ey, I ez], [SL 21 (coR cs), I dq, I dt]])) ∧ ((Inv b (wadd IntKind.i64 x22 1) l1 x23 x24) ∧ (Nat.le (Nat.succ (m b (wadd IntKind.i64 x22 1) l1 x23 x24)) (m b x22 l1 x23 x24)))))))) (ifB (bnot b) (((lsum (rlen l1) (rlen ([[S c.nm, I c.ro, I c.mo, I c.wd, I c.sl, SL 2 (cR c.cl), I c.h0, I c.h1, I c.h2, I c.h3, I c.h4, I c.h5, I c.h6, I c.h7, I c.h8, I c.hs, I c.rm, I c.ha, I c.c0, I c.c1, I c.c2]]))) ≤ ((2147483648 : Int))) ∧ (Q ([SV.agg ([SL 21 (rapp l1 ([[S c.nm, I c.ro, I c.mo, I c.wd, I c.sl, SV.slice 2 (cR c.cl) 0, I c.h0, I c.h1, I c.h2, I c.h3, I c.h4, I c.h5, I c.h6, I c.h7, I c.h8, I c.hs, I c.rm, I c.ha, I c.c0, I c.c1, I c.c2]])), I x23, I x24]), I 0]))) (Q ([SV.agg [SL 21 l1, I x23, I x24], I 0])))) := by
  have lt : ∀ {i : Nat}, i ≤ cs.length → (∀ g ∈ cs.take i, nlt g.nm c.nm) → wout CoD.nm (cs.take i) c.nm = cs.take i := fun _ h => wout_none fun g hg => nlt_ne (h g hg)
  refine ⟨fun b x l q t => ∃ i : Nat, x = i ∧ i ≤ cs.length ∧ q = es ∧ t = ea ∧ (b = false → (∀ g ∈ cs.take i, nlt g.nm c.nm) ∧ l = coR (cs.take i)) ∧ (b = true → (∃ g ∈ cs.take i, ¬ nlt g.nm c.nm) ∧ l = coR (withB CoD.nm (cs.take i) c)), fun _ x _ _ _ => cs.length - x.toNat, ⟨0, rfl, by omega, rfl, rfl, fun _ => ⟨by simp, by simp⟩, fun h => by cases h⟩, ?_⟩
  rintro b _ l _ _ ⟨i, rfl, hi, rfl, rfl, hf, ht⟩
  refine ifB_intro (fun h => ?_) (fun h => ?_)
  · have h : i < cs.length := by simpa using h
    have hr : (0 : Int) ≤ (i : Nat) ∧ ((i : Nat) : Int) < rlen (coR cs) := ⟨by omega, by simpa using h⟩
    have dec : Nat.le (Nat.succ (cs.length - ((i + 1 : Nat) : Int).toNat)) (cs.length - ((i : Nat) : Int).toNat) := stepL (by simp; omega)
    have tk := take_s cs i h
    rw [waddN _ (by omega)]
    have rg := rget_map CoD.row cs i h
    generalize cs[i] = g at tk rg
    refine ifB_intro (fun hb => ?_) (fun hb => ?_)
    · have hb : b = false := by simpa using hb
      subst hb
      obtain ⟨h1, rfl⟩ := hf rfl
      refine ⟨hr, _, _, _, _, _, _, _, _, _, _, _, _, _, _, _, _, _, _, _, _, _, rg, ?_⟩
      rw [sge_d]
      refine ifB_intro (fun h2 => ?_) (fun h2 => ?_)
      · have h2 : ¬ nlt g.nm c.nm := by simpa using h2
        refine ⟨by simp; omega, hr, _, _, _, _, _, _, _, _, _, _, _, _, _, _, _, _, _, _, _, _, _, rg, ?_⟩
        rw [sne_d]
        have ex : ∃ g ∈ cs.take (i + 1), ¬ nlt g.nm c.nm := ⟨g, by rw [tk]; simp, h2⟩
        refine ifB_intro (fun h3 => ⟨hr, _, _, _, _, _, _, _, _, _, _, _, _, _, _, _, _, _, _, _, _, _, rg, ?_, rfl, ⟨i + 1, rfl, by omega, rfl, rfl, nofun, fun _ => ⟨ex, ?_⟩⟩, dec⟩) (fun h3 => ⟨rfl, ⟨i + 1, rfl, by omega, rfl, rfl, nofun, fun _ => ⟨ex, ?_⟩⟩, dec⟩)
        · simp [rapp]; omega
        · have h3 : ¬ g.nm = c.nm := by simpa using h3
          have : withB CoD.nm (cs.take (i + 1)) c = cs.take i ++ c :: [g] := by
            unfold withB
            rw [tk, show wout CoD.nm (cs.take i ++ [g]) c.nm = cs.take i ++ [g] by rw [← lt hi h1]; simp [wout, h3], insB_app h1 (fun x hx => by simp at hx; rw [hx]; exact h2)]
          rw [this]; simp [rapp]
        · have h3 : g.nm = c.nm := by simpa using h3
          have : withB CoD.nm (cs.take (i + 1)) c = cs.take i ++ c :: [] := by
            unfold withB
            rw [tk, show wout CoD.nm (cs.take i ++ [g]) c.nm = cs.take i ++ [] by rw [← lt hi h1]; simp [wout, h3], insB_app h1 (fun x hx => by simp at hx)]
          rw [this]; simp [rapp]
      · have h2 : nlt g.nm c.nm := by simpa using h2
        refine ⟨hr, _, _, _, _, _, _, _, _, _, _, _, _, _, _, _, _, _, _, _, _, _, rg, ?_⟩
        rw [sne_d]
        refine ifB_intro (fun h3 => ⟨hr, _, _, _, _, _, _, _, _, _, _, _, _, _, _, _, _, _, _, _, _, _, rg, ?_, rfl, ⟨i + 1, rfl, by omega, rfl, rfl, fun _ => ⟨?_, ?_⟩, nofun⟩, dec⟩) (fun h3 => ?_)
        · simp; omega
        · intro x hx
          rw [tk] at hx
          rcases List.mem_append.1 hx with hx | hx
          · exact h1 x hx
          · simp at hx; rw [hx]; exact h2
        · rw [tk]; simp [rapp]
        · exfalso
          have h3 : g.nm = c.nm := by simpa using h3
          exact nlt_ne h2 h3
    · have hb : b = true := by simpa using hb
      subst hb
      obtain ⟨⟨y, hy, hyn⟩, rfl⟩ := ht rfl
      have hg : nlt c.nm g.nm := by
        have hyg : nlt y.nm g.nm := by
          have := List.pairwise_append.1 (show (cs.take i ++ [g]).Pairwise _ by rw [← tk]; exact List.Pairwise.sublist (List.take_sublist _ _) hs)
          exact this.2.2 y hy g (by simp)
        rcases nle_iff.1 hyn with h4 | h4
        · exact nlt_trans h4 hyg
        · rw [h4]; exact hyg
      have hlw : (withB CoD.nm (cs.take i) c).length ≤ cs.length + 1 := by
        unfold withB; rw [len_insB]
        have : (wout CoD.nm (cs.take i) c.nm).length ≤ (cs.take i).length := List.length_filter_le _ _
        simp at this; omega
      refine ⟨hr, _, _, _, _, _, _, _, _, _, _, _, _, _, _, _, _, _, _, _, _, _, rg, ?_⟩
      rw [sne_d]
      refine ifB_intro (fun h3 => ⟨hr, _, _, _, _, _, _, _, _, _, _, _, _, _, _, _, _, _, _, _, _, _, rg, ?_, rfl, ⟨i + 1, rfl, by omega, rfl, rfl, nofun, fun _ => ⟨⟨y, by rw [tk]; simp [hy], hyn⟩, ?_⟩⟩, dec⟩) (fun h3 => ?_)
      · simp; omega
      · have : withB CoD.nm (cs.take (i + 1)) c = withB CoD.nm (cs.take i) c ++ [g] := by
          unfold withB
          have hne : ¬ g.nm = c.nm := fun e => nlt_ne hg e.symm
          rw [tk, show wout CoD.nm (cs.take i ++ [g]) c.nm = wout CoD.nm (cs.take i) c.nm ++ [g] by simp [wout, hne]]
          exact ins_snoc (srt_wout (List.Pairwise.sublist (List.take_sublist _ _) hs)) (nlt_asymm hg)
        rw [this]; simp [rapp]
      · exfalso
        have h3 : g.nm = c.nm := by simpa using h3
        exact nlt_ne hg h3.symm
  · have h : ¬ i < cs.length := by simpa using h
    have e : cs.take i = cs := List.take_of_length_le (by omega)
    rw [e] at hf ht
    refine ifB_intro (fun hb => ?_) (fun hb => ?_)
    · have hb : b = false := by simpa using hb
      subst hb
      obtain ⟨h1, rfl⟩ := hf rfl
      refine ⟨by simp; omega, ?_⟩
      have : withB CoD.nm cs c = cs ++ [c] := by
        have := insB_app (nm := CoD.nm) (f := c) (a := cs) (b := []) h1 (by simp)
        rw [List.append_nil] at this
        rw [withB_new (fun g hg => nlt_ne (h1 g hg)), this]
      rw [this] at hQ
      simpa [rapp] using hQ
    · have hb : b = true := by simpa using hb
      subst hb
      obtain ⟨_, rfl⟩ := ht rfl
      exact hQ

theorem srapply_fn (d : StD) (hl : d.cs.length ≤ 1000000) (e : EvD) : Ct Try.prog 52 {} [d.sv, e.sv] (fun r => r = [(appS d e).1.sv, I (appS d e).2]) := by
  refine srapply_nf _ _ _ _ _ _ _ _ _ _ _ (Cl.of (srmay_fn d hl e) ⟨_, rfl, ifB_intro (fun h => ?_) (fun h => ?_)⟩)
  · have h : mayS d e ≠ 0 := by simpa using h
    unfold appS; rw [if_pos h]
  have h : mayS d e = 0 := by simpa using h
  have m := mayS_zero h
  have ea : appS d e = (⟨withB CoD.nm d.cs (nxtS d e), e.s, e.a⟩, 0) := by unfold appS; rw [if_neg (by simp [h])]
  rw [ea]
  refine ifB_intro (fun hk => ?_) (fun hk => ?_)
  · have hk : e.k = 1 := by simpa using hk
    have en : nxtS d e = (newC e.c e.x e.a).1 := by unfold nxtS; rw [if_pos hk]
    rw [en]
    exact Cl.of (qnew_fn e.c e.x e.a) ⟨_, _, _, _, _, _, _, _, _, _, _, _, _, _, _, _, _, _, _, _, _, _, rfl, loop_ok d.cs m.p.2.2 hl (newC e.c e.x e.a).1 e.s e.a _ _ _ _ _ _ _ (fun r => r = [StD.sv ⟨withB CoD.nm d.cs (newC e.c e.x e.a).1, e.s, e.a⟩, I 0]) rfl⟩
  · have hk : ¬ e.k = 1 := by simpa using hk
    obtain ⟨i, hi, h1, h2, h3⟩ := m.old hk
    have en : nxtS d e = tellC d.cs[i] e := by unfold nxtS; rw [if_neg hk, h1, getD_at hi]
    rw [en]
    have ct := qtell_fn d.cs[i] e
    rw [show tellR d.cs[i] e = [(tellC d.cs[i] e).sv, I 0] by unfold tellR; rw [if_pos h3]] at ct
    refine Cl.of (srfind_fn d (by omega) e.c) ⟨_, rfl, ?_⟩
    rw [h1]
    exact ⟨⟨by omega, by simpa using hi⟩, _, _, _, _, _, _, _, _, _, _, _, _, _, _, _, _, _, _, _, _, _, rget_map _ _ _ hi, Cl.of ct ⟨_, _, _, _, _, _, _, _, _, _, _, _, _, _, _, _, _, _, _, _, _, _, rfl, loop_ok d.cs m.p.2.2 hl (tellC d.cs[i] e) e.s e.a _ _ _ _ _ _ _ (fun r => r = [StD.sv ⟨withB CoD.nm d.cs (tellC d.cs[i] e), e.s, e.a⟩, I 0]) rfl⟩⟩
end Go.Proofs.Ytohmeljljamigaa.St

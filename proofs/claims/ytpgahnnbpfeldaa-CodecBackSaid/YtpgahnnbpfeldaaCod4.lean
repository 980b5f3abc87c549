/- Layer 7: bounded numbers, texts; an event as bytes. -/
import Derived.Test.YtpgahnnbpfeldaaCod3
namespace Go.Proofs.Ytpgahnnbpfeldaa.Cod
open Go Go.Px Go.Proofs
set_option maxRecDepth 100000
set_option linter.unusedVariables false

/-- A number that is at most so much is read. -/
structure POut (l : List Int) (a er most a' er' n : Int) : Prop where
  n0 : 0 ≤ n
  n1 : n ≤ most
  good : er = 0 → 0 ≤ a → ∀ (m : Nat) rest, l.drop a.toNat = leb m ++ rest → (m : Int) ≤ most → a' = a + (leb m).length ∧ er' = 0 ∧ n = m

theorem upTo_fn (l : List Int) (a er most : Int) (hl : l.length ≤ 100000) (hb : Byts l) (h0 : 0 ≤ most) (h1 : most ≤ 4611686018427387904) : Ct Try.prog 163 {} [cu3 (bR l) a er, U64 most] (fun r => ∃ a' er' n, r = [cu3 (bR l) a' er', I n] ∧ POut l a er most a' er' n) := by
  refine upTo_nf _ _ _ _ _ (Cl.ofQ (uint_fn l a er hl hb) ?_)
  rintro r ⟨a', er', n, rfl, ho⟩
  refine ⟨_, _, _, _, rfl, ifB_intro (fun h => ?_) (fun h => ?_)⟩
  · simp at h
    refine ⟨_, _, _, rfl, by omega, h0, fun e1 e2 m rest e3 e4 => ?_⟩
    have := ho.good e1 e2 m rest e3 (by omega)
    omega
  · simp at h
    have := ho.n0
    rw [wcvI64 (by omega) (by omega)]
    exact ⟨_, _, _, rfl, ho.n0, h, fun e1 e2 m rest e3 e4 => ho.good e1 e2 m rest e3 (by omega)⟩

theorem bstr_tx (t : ByteArray) : bstr (bR (txB t)) = t := by
  cases t with
  | mk d =>
    simp only [bstr, bR, txB, List.map_map]
    congr 1
    apply Array.ext'
    dsimp only
    conv => rhs; rw [← List.map_id d.toList]
    apply List.map_congr_left
    intro b _
    simp [byteOfRow]

/-- A text of at most so many bytes is read. -/
structure XOut (l : List Int) (a er a' er' : Int) (s : ByteArray) : Prop where
  good : er = 0 → 0 ≤ a → ∀ (t : ByteArray) rest, l.drop a.toNat = leb t.size ++ (txB t ++ rest) → t.size ≤ 24 → a' = a + (leb t.size).length + t.size ∧ er' = 0 ∧ s = t

theorem drop_more {l : List Int} {a : Int} {m : List Int} {rest : List Int} (h0 : 0 ≤ a) (h : l.drop a.toNat = m ++ rest) : l.drop (a + m.length).toNat = rest := by
  rw [show (a + m.length).toNat = a.toNat + m.length by omega, ← List.drop_drop, h, List.drop_left]

theorem text_fn (l : List Int) (a er : Int) (hl : l.length ≤ 100000) (hb : Byts l) : Ct Try.prog 165 {} [cu3 (bR l) a er, I 24] (fun r => ∃ a' er' s, r = [cu3 (bR l) a' er', S s] ∧ XOut l a er a' er' s) := by
  refine text_nf _ _ _ _ _ (Cl.ofQ (uint_fn l a er hl hb) ?_)
  rintro r ⟨a1, er1, n, rfl, ho⟩
  have w24 : wcv IntKind.u64 24 = 24 := rfl
  have n0 := ho.n0
  have n1 := ho.n1
  have hgood : er = 0 → 0 ≤ a → ∀ (t : ByteArray) rest, l.drop a.toNat = leb t.size ++ (txB t ++ rest) → t.size ≤ 24 → a1 = a + (leb t.size).length ∧ er1 = 0 ∧ n = t.size ∧ l.drop a1.toNat = txB t ++ rest ∧ a1 + t.size ≤ l.length ∧ 0 ≤ a1 := by
    intro e1 e2 t rest e3 e4
    obtain ⟨g1, g2, g3⟩ := ho.good e1 e2 t.size _ e3 (by omega)
    have hd := drop_more e2 e3
    rw [← g1] at hd
    have hlen := congrArg List.length hd
    simp [txB_len] at hlen
    have := drop_lt e3
    exact ⟨g1, g2, g3, hd, by omega, by omega⟩
  refine ⟨_, _, _, _, rfl, ifB_intro (fun h => ?_) (fun h => ?_)⟩
  · simp at h
    exact ⟨_, _, _, rfl, ⟨fun e1 e2 t rest e3 e4 => absurd (hgood e1 e2 t rest e3 e4).2.1 h⟩⟩
  · simp at h
    refine ifB_intro (fun h2 => by simp at h2) (fun h2 => ?_)
    rw [w24]
    refine ifB_intro (fun h3 => ?_) (fun h3 => ?_)
    · simp at h3
      refine Cl.of (stay_fn l a er 9) ⟨_, _, _, rfl, _, _, _, rfl, ⟨fun e1 e2 t rest e3 e4 => ?_⟩⟩
      have := hgood e1 e2 t rest e3 e4
      omega
    · simp at h3
      refine Cl.of (left_fn l a1 er1 hl) ⟨_, rfl, ?_⟩
      have hr : rgtC l a1 er1 = true ↔ 0 ≤ a1 ∧ a1 ≤ l.length ∧ er1 = 0 := by simp [rgtC]
      have hw : wcv IntKind.u64 (if rgtC l a1 er1 = true then (l.length : Int) - a1 else 0) = (if rgtC l a1 er1 = true then (l.length : Int) - a1 else 0) := by
        split
        · rename_i hh; have := hr.1 hh; exact wcvU64 (by omega) (by omega)
        · rfl
      rw [hw]
      refine ifB_intro (fun h4 => ?_) (fun h4 => ?_)
      · refine Cl.of (stay_fn l a er 10) ⟨_, _, _, rfl, _, _, _, rfl, ⟨fun e1 e2 t rest e3 e4 => ?_⟩⟩
        have := hgood e1 e2 t rest e3 e4
        rw [if_pos (hr.2 (by omega))] at h4
        simp at h4
        omega
      · rw [wcvI64 (by omega) (by omega)]
        refine Cl.ofQ (take_fn l a1 er1 n hl (by omega) (by omega)) ?_
        rintro r ⟨a2, er2, bs, rfl, ht⟩
        refine ⟨_, _, _, _, rfl, isBytes_bR (hb.sub ht.mem), _, _, _, rfl, ⟨fun e1 e2 t rest e3 e4 => ?_⟩⟩
        obtain ⟨g1, g2, g3, g4, g5, g6⟩ := hgood e1 e2 t rest e3 e4
        obtain ⟨q1, q2, q3⟩ := ht.good g2 g6 n0 (by omega)
        refine ⟨by omega, q2, ?_⟩
        rw [q3, g4, g3]
        have : (txB t ++ rest).take ((t.size : Nat) : Int).toNat = txB t := by
          rw [Int.toNat_natCast, ← txB_len, List.take_left]
        rw [this, bstr_tx]

theorem rtext_fn (l : List Int) (a er : Int) (hl : l.length ≤ 100000) (hb : Byts l) : Ct Try.prog 97 {} [cu3 (bR l) a er, I 24] (fun r => ∃ a' er' s, r = [cu3 (bR l) a' er', S s] ∧ XOut l a er a' er' s) := by
  refine rtext_nf _ _ _ _ _ (Cl.ofQ (ruint_fn l a er hl hb) ?_)
  rintro r ⟨a1, er1, n, rfl, ho⟩
  have w24 : wcv IntKind.u64 24 = 24 := rfl
  have n0 := ho.n0
  have n1 := ho.n1
  have hgood : er = 0 → 0 ≤ a → ∀ (t : ByteArray) rest, l.drop a.toNat = leb t.size ++ (txB t ++ rest) → t.size ≤ 24 → a1 = a + (leb t.size).length ∧ er1 = 0 ∧ n = t.size ∧ l.drop a1.toNat = txB t ++ rest ∧ a1 + t.size ≤ l.length ∧ 0 ≤ a1 := by
    intro e1 e2 t rest e3 e4
    obtain ⟨g1, g2, g3⟩ := ho.good e1 e2 t.size _ e3 (by omega)
    have hd := drop_more e2 e3
    rw [← g1] at hd
    have hlen := congrArg List.length hd
    simp [txB_len] at hlen
    have := drop_lt e3
    exact ⟨g1, g2, g3, hd, by omega, by omega⟩
  refine ⟨_, _, _, _, rfl, ifB_intro (fun h => ?_) (fun h => ?_)⟩
  · simp at h
    exact ⟨_, _, _, rfl, ⟨fun e1 e2 t rest e3 e4 => absurd (hgood e1 e2 t rest e3 e4).2.1 h⟩⟩
  · simp at h
    rw [w24]
    refine ifB_intro (fun h3 => ?_) (fun h3 => ?_)
    · simp at h3
      refine Cl.of (stays_fn l a er 9) ⟨_, _, _, rfl, _, _, _, rfl, ⟨fun e1 e2 t rest e3 e4 => ?_⟩⟩
      have := hgood e1 e2 t rest e3 e4
      omega
    · simp at h3
      refine ifB_intro (fun h4 => ?_) (fun h4 => ?_)
      · refine Cl.of (stays_fn l a er 10) ⟨_, _, _, rfl, _, _, _, rfl, ⟨fun e1 e2 t rest e3 e4 => ?_⟩⟩
        have := hgood e1 e2 t rest e3 e4
        have w0 : wsub IntKind.i64 (rlen (bR l)) a1 = l.length - a1 := by rw [rlen_bR]; exact wsub_i64 (by omega) (by omega)
        rw [w0, wcvU64 (by omega) (by omega)] at h4
        simp at h4
        omega
      · rw [wcvI64 (by omega) (by omega)]
        refine Cl.ofQ (rtake_fn l a1 er1 n hl (by omega) (by omega)) ?_
        rintro r ⟨a2, er2, bs, rfl, ht⟩
        refine ⟨_, _, _, _, rfl, isBytes_bR (hb.sub ht.mem), _, _, _, rfl, ⟨fun e1 e2 t rest e3 e4 => ?_⟩⟩
        obtain ⟨g1, g2, g3, g4, g5, g6⟩ := hgood e1 e2 t rest e3 e4
        obtain ⟨q1, q2, q3⟩ := ht.good g2 g6 n0 (by omega)
        refine ⟨by omega, q2, ?_⟩
        rw [q3, g4, g3]
        have : (txB t ++ rest).take ((t.size : Nat) : Int).toNat = txB t := by
          rw [Int.toNat_natCast, ← txB_len, List.take_left]
        rw [this, bstr_tx]

theorem bstr_inj {l m : List Int} (hl : Byts l) (hm : Byts m) : bstr (bR l) = bstr (bR m) ↔ l = m := by
  constructor
  · intro h
    have h := congrArg (fun b : ByteArray => b.data.toList.map fun x : UInt8 => (x.toNat : Int)) h
    have e : ∀ l : List Int, Byts l → ((bstr (bR l)).data.toList.map fun x : UInt8 => (x.toNat : Int)) = l := by
      intro l hl
      simp only [bstr, bR, List.map_map]
      conv => rhs; rw [← List.map_id l]
      apply List.map_congr_left
      intro b hb
      have := hl b hb
      simp [byteOfRow, UInt8.toNat_ofNat']
      omega
    rw [e l hl, e m hm] at h
    exact h
  · rintro rfl; rfl

theorem bequal_fn (l m : List Int) (hl : Byts l) (hm : Byts m) : Ct Try.prog 95 {} [SL 1 (bR l), SL 1 (bR m)] (fun r => r = [B (decide (l = m))]) := by
  refine bequal_nf _ _ _ ⟨isBytes_bR hl, isBytes_bR hm, ?_⟩
  rw [seq_d]
  simp [bstr_inj hl hm]

end Go.Proofs.Ytpgahnnbpfeldaa.Cod
